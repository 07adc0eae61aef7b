/-
  The walk of SameSamples.
-/
import Derived.Test.YtmbmognhbljliaaRows
import Derived.Test.YtmbmognhbljliaaStructEq
import Derived.Test.YtmbmognhbljliaaLib3
import Derived.IntWalk
namespace Go.Proofs.Ytmbmognhbljliaa.SameSmp
open Go.RowKit Go.Gh
set_option linter.unusedVariables false

theorem ints_samesmp : ints64 Try.prog 90 2 = true := by kernel_rfl
theorem row_samesmp (r : List Int) (h : r.length = 2) : ∃ a0 a1 : Int, r = [a0, a1] := by
  match r, h with
  | [a0, a1], _ => exact ⟨a0, a1, rfl⟩
set_option maxHeartbeats 1000000 in
set_option maxRecDepth 100000 in
theorem samesmp_any (v u : Value) (n o : Nat) (l m : List (List Int)) (w : World) (hs : Sl w 2 v n (rowCells l)) (ht : Sl w 2 u o (rowCells m)) (hl : l.length = n) (hm : m.length = o) (hrl : RowsK 2 l) (hrm : RowsK 2 m) :
    Calls Try.prog 33 #[v, u] w fun e w' => e = .returned (.bool (decide (l = m))) ∧ Below w.heap.size w w' := by
  obtain ⟨ao, c, rfl, hnc, hc, _⟩ := hs.shape
  obtain ⟨bo, d, rfl, hod, hd, _⟩ := ht.shape
  have HL := Lib.hid hl
  have HM := Lib.hid hm
  by_cases hno : n = o
  · subst hno
    clear hl hm
    go_enter Try.func33, Try.ntmps33
    go_wp2_with fail
    go_loopw [4, 5, 13] (fun r _ i wr => ∃ k : Nat, k ≤ n ∧ i = .int .i64 k ∧ r = .bool false ∧ Below w.heap.size w wr ∧ Hid (sameUp l m k)) (fun _ _ i _ => n - (intOf i).toNat)
    case atStart => exact ⟨0, by omega, rfl, rfl, Below.refl _ _, fun i hi => by omega⟩
    case round =>
      obtain ⟨k, hk, rfl, rfl, hbr, hsame⟩ := hrel
      by_cases hlt : k < n
      · obtain ⟨b, off, rfl, hk1, hck⟩ := (hs.below hbr).rowk HL.out hrl hlt
        obtain ⟨b', off', rfl, hj1, hcj⟩ := (ht.below hbr).rowk HM.out hrm hlt
        obtain ⟨a0, a1, ha⟩ := row_samesmp _ hk1
        obtain ⟨b0, b1, hb⟩ := row_samesmp _ hj1
        rw [ha] at hck
        rw [hb] at hcj
        have HA := Lib.hid ha
        have HB := Lib.hid hb
        clear ha hb hk1 hj1
        have c0 : _ = some (Value.int .i64 a0) := hck 0 (by decide)
        have c1 : _ = some (Value.int .i64 a1) := hck 1 (by decide)
        have e0 : _ = some (Value.int .i64 b0) := hcj 0 (by decide)
        have e1 : _ = some (Value.int .i64 b1) := hcj 1 (by decide)
        rw [Nat.add_zero] at c0 e0
        clear hck hcj
        by_cases he : [a0, a1] = [b0, b1]
        · have HE := Lib.hid he
          have HN : Hid (sameUp l m (k + 1)) := sameUp_succ hsame.out (by rw [HA.out, HB.out]; exact he)
          clear he
          go_wp2_with fail
          refine wp_region_quiet_lit (by kernel_rfl) (by kernel_rfl) ?_
          repeat (go_big_quiet_step (fail))
          go_big_quiet_want
          refine quiet_of_run (.bool false) (fun w' => (exec_neq_ints (l := [a0, a1]) (m := [b0, b1]) rfl ints_samesmp rfl rfl rfl rfl).trans (by rw [decide_eq_true HE.out]; rfl)) ?_
          go_big_quiet_on
          refine wpQuiet_nil ?_
          rintro _ ⟨nq, rfl⟩
          go_wp2
          go_roundw
          case rel => exact ⟨k + 1, by omega, by go_num, rfl, below_drewN hbr _, HN⟩
          case measure => simp [intOf]; omega
        · have HE := Lib.hid he
          have HN : Hid (decide (l = m) = false) := decide_eq_false (fun h => he (by rw [← HA.out, ← HB.out, h]))
          clear he
          go_wp2_with fail
          refine wp_region_quiet_lit (by kernel_rfl) (by kernel_rfl) ?_
          repeat (go_big_quiet_step (fail))
          go_big_quiet_want
          refine quiet_of_run (.bool true) (fun w' => (exec_neq_ints (l := [a0, a1]) (m := [b0, b1]) rfl ints_samesmp rfl rfl rfl rfl).trans (by rw [decide_eq_false HE.out]; rfl)) ?_
          go_big_quiet_on
          refine wpQuiet_nil ?_
          rintro _ ⟨nq, rfl⟩
          go_wp2
          go_ret
          exact ⟨ret_bool HN.out.symm, below_drewN hbr _⟩
      · obtain rfl : k = n := by omega
        have HN : Hid (decide (l = m) = true) := decide_eq_true (same_all (by rw [HL.out, HM.out]) (by rw [HL.out]; exact hsame.out))
        go_wp2_with fail
        go_ret
        exact ⟨ret_bool HN.out.symm, hbr⟩
  · have HN : Hid (decide (l = m) = false) := decide_eq_false (fun h => hno (by rw [← hl, ← hm, h]))
    have hne : ((n : Int) != (o : Int)) = true := by rw [bne_iff_ne]; omega
    clear hl hm
    go_enter Try.func33, Try.ntmps33
    go_wp2_with fail
    go_ret
    exact ⟨ret_bool HN.out.symm, Below.refl _ _⟩
end Go.Proofs.Ytmbmognhbljliaa.SameSmp
