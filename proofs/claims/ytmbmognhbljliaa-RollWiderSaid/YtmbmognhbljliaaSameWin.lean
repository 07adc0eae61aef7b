/-
  The walk of SameWindows.
-/
import Derived.Test.YtmbmognhbljliaaRows
import Derived.Test.YtmbmognhbljliaaStructEq
import Derived.Test.YtmbmognhbljliaaLib3
import Derived.IntWalk
namespace Go.Proofs.Ytmbmognhbljliaa.SameWin
open Go.RowKit Go.Gh
set_option linter.unusedVariables false

theorem ints_samewin : ints64 Try.prog 92 7 = true := by kernel_rfl
theorem row_samewin (r : List Int) (h : r.length = 7) : ∃ a0 a1 a2 a3 a4 a5 a6 : Int, r = [a0, a1, a2, a3, a4, a5, a6] := by
  match r, h with
  | [a0, a1, a2, a3, a4, a5, a6], _ => exact ⟨a0, a1, a2, a3, a4, a5, a6, rfl⟩
set_option maxHeartbeats 1000000 in
set_option maxRecDepth 100000 in
theorem samewin_any (v u : Value) (n o : Nat) (l m : List (List Int)) (w : World) (hs : Sl w 7 v n (rowCells l)) (ht : Sl w 7 u o (rowCells m)) (hl : l.length = n) (hm : m.length = o) (hrl : RowsK 7 l) (hrm : RowsK 7 m) :
    Calls Try.prog 30 #[v, u] w fun e w' => e = .returned (.bool (decide (l = m))) ∧ Below w.heap.size w w' := by
  obtain ⟨ao, c, rfl, hnc, hc, _⟩ := hs.shape
  obtain ⟨bo, d, rfl, hod, hd, _⟩ := ht.shape
  have HL := Lib.hid hl
  have HM := Lib.hid hm
  by_cases hno : n = o
  · subst hno
    clear hl hm
    go_enter Try.func30, Try.ntmps30
    go_wp2_with fail
    go_loopw [4, 5, 13] (fun r _ i wr => ∃ k : Nat, k ≤ n ∧ i = .int .i64 k ∧ r = .bool false ∧ Below w.heap.size w wr ∧ Hid (sameUp l m k)) (fun _ _ i _ => n - (intOf i).toNat)
    case atStart => exact ⟨0, by omega, rfl, rfl, Below.refl _ _, fun i hi => by omega⟩
    case round =>
      obtain ⟨k, hk, rfl, rfl, hbr, hsame⟩ := hrel
      by_cases hlt : k < n
      · obtain ⟨b, off, rfl, hk1, hck⟩ := (hs.below hbr).rowk HL.out hrl hlt
        obtain ⟨b', off', rfl, hj1, hcj⟩ := (ht.below hbr).rowk HM.out hrm hlt
        obtain ⟨a0, a1, a2, a3, a4, a5, a6, ha⟩ := row_samewin _ hk1
        obtain ⟨b0, b1, b2, b3, b4, b5, b6, hb⟩ := row_samewin _ hj1
        rw [ha] at hck
        rw [hb] at hcj
        have HA := Lib.hid ha
        have HB := Lib.hid hb
        clear ha hb hk1 hj1
        have c0 : _ = some (Value.int .i64 a0) := hck 0 (by decide)
        have c1 : _ = some (Value.int .i64 a1) := hck 1 (by decide)
        have c2 : _ = some (Value.int .i64 a2) := hck 2 (by decide)
        have c3 : _ = some (Value.int .i64 a3) := hck 3 (by decide)
        have c4 : _ = some (Value.int .i64 a4) := hck 4 (by decide)
        have c5 : _ = some (Value.int .i64 a5) := hck 5 (by decide)
        have c6 : _ = some (Value.int .i64 a6) := hck 6 (by decide)
        have e0 : _ = some (Value.int .i64 b0) := hcj 0 (by decide)
        have e1 : _ = some (Value.int .i64 b1) := hcj 1 (by decide)
        have e2 : _ = some (Value.int .i64 b2) := hcj 2 (by decide)
        have e3 : _ = some (Value.int .i64 b3) := hcj 3 (by decide)
        have e4 : _ = some (Value.int .i64 b4) := hcj 4 (by decide)
        have e5 : _ = some (Value.int .i64 b5) := hcj 5 (by decide)
        have e6 : _ = some (Value.int .i64 b6) := hcj 6 (by decide)
        rw [Nat.add_zero] at c0 e0
        clear hck hcj
        by_cases he : [a0, a1, a2, a3, a4, a5, a6] = [b0, b1, b2, b3, b4, b5, b6]
        · have HE := Lib.hid he
          have HN : Hid (sameUp l m (k + 1)) := sameUp_succ hsame.out (by rw [HA.out, HB.out]; exact he)
          clear he
          go_wp2_with fail
          refine wp_region_quiet_lit (by kernel_rfl) (by kernel_rfl) ?_
          repeat (go_big_quiet_step (fail))
          go_big_quiet_want
          refine quiet_of_run (.bool false) (fun w' => (exec_neq_ints (l := [a0, a1, a2, a3, a4, a5, a6]) (m := [b0, b1, b2, b3, b4, b5, b6]) rfl ints_samewin rfl rfl rfl rfl).trans (by rw [decide_eq_true HE.out]; rfl)) ?_
          go_big_quiet_on
          refine wpQuiet_nil ?_
          rintro _ ⟨nq, rfl⟩
          go_wp2
          go_roundw
          case rel => exact ⟨k + 1, by omega, by go_num, rfl, below_drewN hbr _, HN⟩
          case measure => simp [intOf]; omega
        · have HE := Lib.hid he
          have HN : Hid (decide (l = m) = false) := decide_eq_false (fun h => he (by rw [← HA.out, ← HB.out, h]))
          clear he
          go_wp2_with fail
          refine wp_region_quiet_lit (by kernel_rfl) (by kernel_rfl) ?_
          repeat (go_big_quiet_step (fail))
          go_big_quiet_want
          refine quiet_of_run (.bool true) (fun w' => (exec_neq_ints (l := [a0, a1, a2, a3, a4, a5, a6]) (m := [b0, b1, b2, b3, b4, b5, b6]) rfl ints_samewin rfl rfl rfl rfl).trans (by rw [decide_eq_false HE.out]; rfl)) ?_
          go_big_quiet_on
          refine wpQuiet_nil ?_
          rintro _ ⟨nq, rfl⟩
          go_wp2
          go_ret
          exact ⟨ret_bool HN.out.symm, below_drewN hbr _⟩
      · obtain rfl : k = n := by omega
        have HN : Hid (decide (l = m) = true) := decide_eq_true (same_all (by rw [HL.out, HM.out]) (by rw [HL.out]; exact hsame.out))
        go_wp2_with fail
        go_ret
        exact ⟨ret_bool HN.out.symm, hbr⟩
  · have HN : Hid (decide (l = m) = false) := decide_eq_false (fun h => hno (by rw [← hl, ← hm, h]))
    have hne : ((n : Int) != (o : Int)) = true := by rw [bne_iff_ne]; omega
    clear hl hm
    go_enter Try.func30, Try.ntmps30
    go_wp2_with fail
    go_ret
    exact ⟨ret_bool HN.out.symm, Below.refl _ _⟩
end Go.Proofs.Ytmbmognhbljliaa.SameWin
