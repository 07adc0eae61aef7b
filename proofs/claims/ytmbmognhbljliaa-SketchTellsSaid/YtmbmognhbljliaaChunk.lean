/-
  The walks of slices.Chunk at []int64: the function, and the iterator that it hands back.
-/
import Derived.RangeFuncNested
import Derived.RangeFuncBound
import Derived.RangeFuncCalls
import Derived.RangeFuncLeaves
import Derived.Shelf.Abstract
import Derived.WalkKit
import Derived.OwnWalkIn
import Derived.TacticsInMore
import Derived.LoopNIn
import Derived.LoopIn
import Derived.Sort.QuietTacIn
import Derived.Test.YtmbmognhbljliaaSkLaw
import Derived.Test.YtmbmognhbljliaaLib2
import Derived.Test.YtmbmognhbljliaaRows
namespace Go.Proofs.Ytmbmognhbljliaa.Sk
open Go.RowKit Go.Shelf Go.Gh
set_option linter.unusedVariables false
attribute [local go_sem] Oper.semAt_some

set_option maxRecDepth 100000 in
set_option maxHeartbeats 2000000 in
theorem chunk1_in (n : Nat) (hn : 1 ≤ n) (l Bs Bw n₀ b off D wd L cap : Nat) (hD : 0 < D) (hW : 0 < wd) (hLe : L = D * wd) (hL : L ≤ 1600) (hcap : L ≤ cap) (hcap2 : cap ≤ 9223372036854775807) (hBs' : Bs < n₀) (hBw' : Bw < n₀) (J Jx : List Nat → World → Prop) (hJ : ∀ s A m, J s A → J s (A.drewN m))
    (hY : ∀ pre x W1, J pre W1 → pre.length < D → YieldAt Fence.wide (n - 1) Try.prog l #[.slice (some ⟨b, off + clampI D x * wd, none⟩) wd wd] W1 fun e W' =>
      (e = .returned (.bool true) ∧ J (pre ++ [x]) W' ∧ Below n₀ W1 W') ∨ (e = .returned (.bool false) ∧ Jx (pre ++ [x]) W'))
    (W : World) (hBs : W.cell? ⟨Bs, 0, none⟩ = some (.slice (some ⟨b, off, none⟩) L cap)) (hBw : W.cell? ⟨Bw, 0, none⟩ = some (.int .i64 wd)) (h0 : J [] W) :
    CallsIn Fence.wide n Try.prog 86 #[.func (.yield l) #[] #[], .pointer (some ⟨Bs, 0, none⟩), .pointer (some ⟨Bw, 0, none⟩)] W fun e W' => (∃ v, e = .returned v) ∧
      ((∃ ys, ys = List.range D ∧ J ys W') ∨ (∃ pre : List Nat, True ∧ Jx pre W')) := by
  have HY := Lib.hid hY
  have HLE := Lib.hid hLe
  clear hY hLe
  refine callsIn_of_wp Try.func86 rfl trivial ?_ rfl
  simp only [Try.ntmps86, List.size_toArray, List.length_cons, List.length_nil, Nat.reduceAdd, Nat.reduceSub, Array.replicate_succ, Array.replicate_zero, List.push_toArray, List.append_toArray, List.nil_append, List.cons_append]
  gi_wp2
  gi_loopw [4] (fun i wr => ∃ k q : Nat, k ≤ D ∧ i = .int .i64 q ∧ q ≤ L ∧ (k < D → q + wd ≤ L) ∧ (k = D → q = L) ∧ Hid (q = k * wd) ∧ J (List.range k) wr ∧ Below n₀ W wr)
    (fun i _ => L - (intOf i).toNat)
  case atStart => exact ⟨0, 0, Nat.zero_le _, rfl, by omega, fun _ => by have := chunk_end (i := 0) (W := wd) hD; rw [HLE.out]; omega, fun h => by omega, Lib.hid (by rw [Nat.zero_mul]), h0, Below.refl _ _⟩
  case round =>
    obtain ⟨k, q, hk, rfl, hqL, hq1, hq2, HQ, hJs, hnx⟩ := hrel
    have b1 : wr.cell? ⟨Bs, 0, none⟩ = some (.slice (some ⟨b, off, none⟩) L cap) := (hnx.cell (p := ⟨Bs, 0, none⟩) hBs').trans hBs
    have b2 : wr.cell? ⟨Bw, 0, none⟩ = some (.int .i64 wd) := (hnx.cell (p := ⟨Bw, 0, none⟩) hBw').trans hBw
    by_cases hlt : k < D
    · have hqw := hq1 hlt
      clear hq1 hq2
      have hnext : (k + 1 < D → q + wd + wd ≤ L) ∧ (k + 1 = D → q + wd = L) := by
        have e : q + wd = (k + 1) * wd := by rw [HQ.out, Nat.succ_mul]
        constructor
        · intro h
          rw [e, HLE.out]
          exact chunk_end h
        · intro h
          rw [e, h, HLE.out]
      have HQN : Hid (q + wd = (k + 1) * wd) := by show _ = _; rw [HQ.out, Nat.succ_mul]
      have m1 : ¬ ((L - q : Nat) : Int) < (wd : Int) := by omega
      have m2 : ¬ ((L : Int) - (q : Int) < (wd : Int)) := by omega
      have m3 : ¬ (wd = 0) := by omega
      gi_wp2
      gi_quiet_th (fail)
      obtain ⟨fn, tmps, assign, body, hy, hR⟩ := HY.out (List.range k) k (wr.drewN nq) (hJ _ _ _ hJs) (by rw [List.length_range]; exact hlt)
      rw [clamp_id hlt, ← HQ.out] at hy
      gi_wp2
      refine hR.mono ?_
      rintro e W3 (⟨rfl, hJ3, hk3⟩ | ⟨rfl, hJx3⟩)
      · have hbel3 : Below n₀ W W3 := (below_drewN hnx nq).trans hk3
        have b2' : W3.cell? ⟨Bw, 0, none⟩ = some (.int .i64 wd) := (hbel3.cell (p := ⟨Bw, 0, none⟩) hBw').trans hBw
        have hJ4 : J (List.range (k + 1)) W3 := by rw [List.range_succ]; exact hJ3
        gi_wp2
        go_roundw
        case rel => exact ⟨k + 1, q + wd, by omega, by go_num, hqw, hnext.1, hnext.2, HQN, hJ4, hbel3⟩
        case measure => simp [intOf]; omega
      · gi_wp2
        refine bodyPost_ret (results_none rfl _ _ _) rfl ?_
        exact ⟨⟨_, rfl⟩, .inr ⟨_, trivial, hJx3⟩⟩
    · obtain rfl : k = D := by omega
      have hqe := hq2 rfl
      subst hqe
      clear hq1 hq2
      gi_wp2
      go_end0
      exact ⟨⟨_, rfl⟩, .inl ⟨_, rfl, hJs⟩⟩
/-- slices.Chunk(s, n): both are boxed; the function value captures the boxes. -/
theorem chunk_in (n : Nat) (a : Option Addr) (len cap wd : Nat) (hW : 0 < wd) (w : World) :
    CallsIn Fence.wide n Try.prog 84 #[.slice a len cap, .int .i64 wd] w fun e w' => e = .returned (.func (.func 86) #[] #[.pointer (some ⟨w.heap.size, 0, none⟩), .pointer (some ⟨w.heap.size + 1, 0, none⟩)]) ∧ w' = (w.alloc (.cells #[.slice a len cap] 64)).alloc (.cells #[.int .i64 wd] 3) := by
  have hw : ¬ ((wd : Int) < 1) := by omega
  refine callsIn_of_wp Try.func84 rfl trivial ?_ rfl
  simp only [Try.ntmps84, List.size_toArray, List.length_cons, List.length_nil, Nat.reduceAdd, Nat.reduceSub, Array.replicate_succ, Array.replicate_zero, List.push_toArray, List.append_toArray, List.nil_append, List.cons_append]
  gi_wp2
  go_ret
  exact ⟨rfl, rfl⟩
theorem chunk_stops (n : Nat) (hn : 1 ≤ n) (Bs Bw n₀ b off D wd L cap : Nat) (hD : 0 < D) (hW : 0 < wd) (hLe : L = D * wd) (hL : L ≤ 1600) (hcap : L ≤ cap) (hcap2 : cap ≤ 9223372036854775807) (hBs' : Bs < n₀) (hBw' : Bw < n₀) (w : World) (hn₀ : n₀ ≤ w.heap.size)
    (hBs : w.cell? ⟨Bs, 0, none⟩ = some (.slice (some ⟨b, off, none⟩) L cap)) (hBw : w.cell? ⟨Bw, 0, none⟩ = some (.int .i64 wd)) :
    SeqStopsK Fence.wide n Try.prog 86 #[.pointer (some ⟨Bs, 0, none⟩), .pointer (some ⟨Bw, 0, none⟩)] (fun x : Nat => #[.slice (some ⟨b, off + clampI D x * wd, none⟩) wd wd]) (Below n₀) (fun ys => ys = List.range D) (fun _ => True) D w := fun l J Jx W hWb hJ _ hY h0 => by
  have hB1 := (hWb.cell (p := ⟨Bs, 0, none⟩) (show Bs < w.heap.size by omega)).trans hBs
  have hB2 := (hWb.cell (p := ⟨Bw, 0, none⟩) (show Bw < w.heap.size by omega)).trans hBw
  exact chunk1_in n hn l Bs Bw n₀ b off D wd L cap hD hW hLe hL hcap hcap2 hBs' hBw' J Jx (fun s A m hs => hJ s A _ none hs (grown_drewN ⟨rfl, rfl, rfl, Nat.le_refl _, fun _ _ _ => rfl⟩ m) (fun r e => by cases e)) hY W hB1 hB2 h0
end Go.Proofs.Ytmbmognhbljliaa.Sk
