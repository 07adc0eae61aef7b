/-
  The walks of roll.Check and WindowsFault.
-/
import Derived.Test.YtmbmognhbljliaaRoll3
import Derived.Test.YtmbmognhbljliaaWinLaw
import Derived.Test.YtmbmognhbljliaaLib3
namespace Go.Proofs.Ytmbmognhbljliaa.Win
open Go.RowKit Go.Gh
set_option linter.unusedVariables false

theorem min3 (P : Program) (ts : Array TypeId) (t : TypeId) (x y z : Int) : ∃ mn, (∀ w, (Builtin.min_ ts t #[.int .i64 x, .int .i64 y, .int .i64 z]).run P w = .ok (.int .i64 mn) w) ∧ ∀ q, (mn < q ↔ x < q ∨ y < q ∨ z < q) := by
  refine ⟨if z < (if y < x then y else x) then z else (if y < x then y else x), fun w => by simp [Builtin.min_, Builtin.min2], fun q => ?_⟩
  by_cases h1 : y < x
  · rw [if_pos h1]; by_cases h2 : z < y
    · rw [if_pos h2]; omega
    · rw [if_neg h2]; omega
  · rw [if_neg h1]; by_cases h2 : z < x
    · rw [if_pos h2]; omega
    · rw [if_neg h2]; omega

set_option maxHeartbeats 4000000 in
set_option maxRecDepth 100000 in
theorem windowsfault_any (v : Value) (n : Nat) (l : List (List Int)) (w : World) (hs : Sl w 7 v n (rowCells l)) (hl : l.length = n) (hr : RowsK 7 l) (hn : n ≤ 140737488355328) :
    Calls Try.prog 50 #[v] w fun e w' => e = .returned (.int .i64 (winF l)) ∧ Below w.heap.size w w' := by
  obtain ⟨ao, c, rfl, hnc, hc, _⟩ := hs.shape
  have HL := Lib.hid hl
  by_cases hbig : 1000 < n
  · have HF : Hid (winF l = 2) := if_pos (by omega)
    clear hl
    go_enter Try.func50, Try.ntmps50
    go_wp2_with fail
    go_ret
    exact ⟨ret_int HF.out.symm, Below.refl _ _⟩
  · have HW : Hid (winF l = scanW (prevT l 0) (l.drop 0)) := if_neg (by omega)
    clear hl
    go_enter Try.func50, Try.ntmps50
    go_wp2_with fail
    go_loopw [2, 10] (fun r i wr => ∃ k : Nat, k ≤ n ∧ i = .int .i64 k ∧ r = .int .i64 0 ∧ Below w.heap.size w wr ∧ Hid (winF l = scanW (prevT l k) (l.drop k))) (fun _ i _ => n - (intOf i).toNat)
    case atStart => exact ⟨0, by omega, rfl, rfl, Below.refl _ _, HW⟩
    case round =>
      obtain ⟨k, hk, rfl, rfl, hbr, hscan⟩ := hrel
      by_cases hlt : k < n
      · obtain ⟨b, off, rfl, hk1, hck⟩ := (hs.below hbr).rowk HL.out hr hlt
        obtain ⟨a0, a1, a2, a3, a4, a5, a6, ha⟩ := row7 _ hk1
        rw [ha] at hck
        have HA := Lib.hid ha
        clear ha hk1
        have c0 : _ = some (Value.int .i64 a0) := hck 0 (by decide)
        have c1 : _ = some (Value.int .i64 a1) := hck 1 (by decide)
        have c2 : _ = some (Value.int .i64 a2) := hck 2 (by decide)
        have c3 : _ = some (Value.int .i64 a3) := hck 3 (by decide)
        have c4 : _ = some (Value.int .i64 a4) := hck 4 (by decide)
        have c5 : _ = some (Value.int .i64 a5) := hck 5 (by decide)
        have c6 : _ = some (Value.int .i64 a6) := hck 6 (by decide)
        rw [Nat.add_zero] at c0
        clear hck
        have hbA := hbr.alloc hbr.size (Obj.cells #[.int .i64 a0, .int .i64 a1, .int .i64 a2, .int .i64 a3, .int .i64 a4, .int .i64 a5, .int .i64 a6] 92)
        have HBAD : badW [a0, a1, a2, a3, a4, a5, a6] ↔ (a1 < 1 ∨ 1000000000 < a1 ∨ a5 < a3 ∨ a6 < a3 ∨ a4 < a3 ∨ a4 < a5 ∨ a4 < a6) := Iff.rfl
        by_cases hq : a1 < 1
        · have HF : Hid (winF l = 4) := hscan.out.trans (scan_bad (by rw [HL.out]; exact hlt) (by rw [HA.out, HBAD]; omega))
          clear HBAD
          go_wp2_with fail
          all_goals
            go_ret
            exact ⟨ret_int HF.out.symm, hbA⟩
        have g1 : 1 ≤ a1 := by omega
        clear hq
        by_cases hq : 1000000000 < a1
        · have HF : Hid (winF l = 4) := hscan.out.trans (scan_bad (by rw [HL.out]; exact hlt) (by rw [HA.out, HBAD]; omega))
          clear HBAD
          go_wp2_with fail
          all_goals
            go_ret
            exact ⟨ret_int HF.out.symm, hbA⟩
        have g2 : a1 ≤ 1000000000 := by omega
        clear hq
        by_cases hq : a5 < a3
        · have HF : Hid (winF l = 4) := hscan.out.trans (scan_bad (by rw [HL.out]; exact hlt) (by rw [HA.out, HBAD]; omega))
          clear HBAD
          go_wp2_with fail
          all_goals
            go_ret
            exact ⟨ret_int HF.out.symm, hbA⟩
        have g3 : a3 ≤ a5 := by omega
        clear hq
        by_cases hq : a6 < a3
        · have HF : Hid (winF l = 4) := hscan.out.trans (scan_bad (by rw [HL.out]; exact hlt) (by rw [HA.out, HBAD]; omega))
          clear HBAD
          go_wp2_with fail
          all_goals
            go_ret
            exact ⟨ret_int HF.out.symm, hbA⟩
        have g4 : a3 ≤ a6 := by omega
        clear hq
        by_cases hq : a4 < a3
        · have HF : Hid (winF l = 4) := hscan.out.trans (scan_bad (by rw [HL.out]; exact hlt) (by rw [HA.out, HBAD]; omega))
          clear HBAD
          go_wp2_with fail
          all_goals
            go_ret
            exact ⟨ret_int HF.out.symm, hbA⟩
        have g5 : a3 ≤ a4 := by omega
        clear hq
        by_cases hq : a4 < a5
        · have HF : Hid (winF l = 4) := hscan.out.trans (scan_bad (by rw [HL.out]; exact hlt) (by rw [HA.out, HBAD]; omega))
          clear HBAD
          go_wp2_with fail
          all_goals
            go_ret
            exact ⟨ret_int HF.out.symm, hbA⟩
        have g6 : a5 ≤ a4 := by omega
        clear hq
        by_cases hq : a4 < a6
        · have HF : Hid (winF l = 4) := hscan.out.trans (scan_bad (by rw [HL.out]; exact hlt) (by rw [HA.out, HBAD]; omega))
          clear HBAD
          go_wp2_with fail
          all_goals
            go_ret
            exact ⟨ret_int HF.out.symm, hbA⟩
        have g7 : a6 ≤ a4 := by omega
        clear hq
        have HB : Hid (¬ badW (l.getD k [])) := by
          show ¬ _
          rw [HA.out, HBAD]
          omega
        clear HBAD
        by_cases h0 : k = 0
        · have HN : Hid (winF l = scanW (prevT l (k + 1)) (l.drop (k + 1))) := by
            subst h0
            exact hscan.out.trans (scan_first (by rw [HL.out]; exact hlt) HB.out)
          have t0 : decide ((0 : Int) < (k : Int)) = false := decide_eq_false (by omega)
          have t1 : decide (0 < k) = false := decide_eq_false (by omega)
          clear h0
          go_wp2_with fail
          all_goals
            go_quiet (fail)
            go_wp2
            go_roundw
            case rel => exact ⟨k + 1, by omega, by go_num, rfl, below_drewN hbA _, HN⟩
            case measure => simp [intOf]; omega
        · obtain ⟨j, rfl⟩ : ∃ j, k = j + 1 := ⟨k - 1, by omega⟩
          obtain ⟨b', off', hbo, hj1, hcj⟩ := (hs.below hbr).rowk HL.out hr (show j < n by omega)
          simp only [Option.some.injEq, Addr.mk.injEq, and_true] at hbo
          obtain ⟨rfl, rfl⟩ := hbo
          have d0 : _ = some (Value.int .i64 ((l.getD j []).getD 0 0)) := hcj 0 (by decide)
          rw [Nat.add_zero] at d0
          have hnw : b < wr.heap.size := cell_lt d0
          have hnew : wr.heap.size ≠ b := by omega
          have hnew2 : b ≠ wr.heap.size := by omega
          clear hcj hj1 h0
          have hX : rg (l.getD j []) 0 = (l.getD j []).getD 0 0 := rfl
          generalize (l.getD j []).getD 0 0 = x at *
          have HX := Lib.hid hX
          clear hX
          have t0 : decide ((0 : Int) < (j + 1 : Nat)) = true := by simp
          have t0' : decide ((0 : Int) < (j : Int) + 1) = true := decide_eq_true (by omega)
          have i0 : ((j + 1 : Nat) : Int) - 1 = (j : Int) := by omega
          have i1 : IntKind.i64.wrap ((j : Int) + 1 - 1) = (j : Int) := by rw [IntWalk.i64_in _ (by omega)]; omega
          have i6 : IntKind.i64.wrap (j : Int) = (j : Int) := IntWalk.i64_in _ (by omega)
          have i2 : ((j : Int) + 1).toNat = j + 1 := by omega
          have i3 : (j : Int) + 1 < n := by omega
          have i4 : 0 ≤ (j : Int) + 1 := by omega
          have i5 : (j : Int) < n := by omega
          by_cases hle : a0 ≤ x
          · have HF : Hid (winF l = 5) := hscan.out.trans (scan_late (by rw [HL.out]; exact hlt) HB.out (by rw [HA.out, HX.out]; exact hle))
            go_wp2_with fail
            all_goals
              go_quiet (fail)
              go_wp2_with fail
              go_ret
              exact ⟨ret_int HF.out.symm, below_drewN hbA _⟩
          · have HN : Hid (winF l = scanW (prevT l (j + 1 + 1)) (l.drop (j + 1 + 1))) := hscan.out.trans (scan_next (by rw [HL.out]; exact hlt) HB.out (by rw [HA.out, HX.out]; exact hle))
            have hlt' : x < a0 := by omega
            clear hle
            go_wp2_with fail
            all_goals
              go_quiet (fail)
              go_wp2
              go_roundw
              case rel => exact ⟨j + 1 + 1, by omega, by go_num, rfl, below_drewN hbA _, HN⟩
              case measure => simp [intOf]; omega
      · have HF : Hid (winF l = 0) := hscan.out.trans (scan_end (by rw [HL.out]; omega))
        go_wp2_with fail
        go_ret
        exact ⟨ret_int HF.out.symm, hbr⟩

set_option maxHeartbeats 4000000 in
set_option maxRecDepth 100000 in
theorem check_any (v : Value) (n : Nat) (l : List (List Int)) (w : World) (hs : Sl w 7 v n (rowCells l)) (hl : l.length = n) (hr : RowsK 7 l) (hn : n ≤ 140737488355328) :
    Calls Try.prog 51 #[v] w fun e w' => e = .returned (.int .i64 (winF l)) ∧ Below w.heap.size w w' := by
  obtain ⟨ao, c, rfl, hnc, hc, _⟩ := hs.shape
  have HL := Lib.hid hl
  by_cases hbig : 1000 < n
  · have HF : Hid (winF l = 2) := if_pos (by omega)
    clear hl
    go_enter Try.func51, Try.ntmps51
    go_wp2_with fail
    go_ret
    exact ⟨ret_int HF.out.symm, Below.refl _ _⟩
  · have HW : Hid (winF l = scanW (prevT l 0) (l.drop 0)) := if_neg (by omega)
    clear hl
    go_enter Try.func51, Try.ntmps51
    go_wp2_with fail
    go_loopw [2, 10] (fun r i wr => ∃ k : Nat, k ≤ n ∧ i = .int .i64 k ∧ r = .int .i64 0 ∧ Below w.heap.size w wr ∧ Hid (winF l = scanW (prevT l k) (l.drop k))) (fun _ i _ => n - (intOf i).toNat)
    case atStart => exact ⟨0, by omega, rfl, rfl, Below.refl _ _, HW⟩
    case round =>
      obtain ⟨k, hk, rfl, rfl, hbr, hscan⟩ := hrel
      by_cases hlt : k < n
      · obtain ⟨b, off, rfl, hk1, hck⟩ := (hs.below hbr).rowk HL.out hr hlt
        obtain ⟨a0, a1, a2, a3, a4, a5, a6, ha⟩ := row7 _ hk1
        rw [ha] at hck
        have HA := Lib.hid ha
        clear ha hk1
        have c0 : _ = some (Value.int .i64 a0) := hck 0 (by decide)
        have c1 : _ = some (Value.int .i64 a1) := hck 1 (by decide)
        have c2 : _ = some (Value.int .i64 a2) := hck 2 (by decide)
        have c3 : _ = some (Value.int .i64 a3) := hck 3 (by decide)
        have c4 : _ = some (Value.int .i64 a4) := hck 4 (by decide)
        have c5 : _ = some (Value.int .i64 a5) := hck 5 (by decide)
        have c6 : _ = some (Value.int .i64 a6) := hck 6 (by decide)
        rw [Nat.add_zero] at c0
        clear hck
        have hbA := hbr.alloc hbr.size (Obj.cells #[.int .i64 a0, .int .i64 a1, .int .i64 a2, .int .i64 a3, .int .i64 a4, .int .i64 a5, .int .i64 a6] 92)
        obtain ⟨mn, hmn, hMN⟩ := min3 Try.prog #[2, 2, 2] 2 a5 a6 a4
        have HMN := Lib.hid hMN
        clear hMN
        have HBAD : badW [a0, a1, a2, a3, a4, a5, a6] ↔ (a1 < 1 ∨ 1000000000 < a1 ∨ a5 < a3 ∨ a6 < a3 ∨ a4 < a3 ∨ a4 < a5 ∨ a4 < a6) := Iff.rfl
        by_cases hq : a1 < 1
        · have HF : Hid (winF l = 4) := hscan.out.trans (scan_bad (by rw [HL.out]; exact hlt) (by rw [HA.out, HBAD]; omega))
          clear HBAD
          go_wp2_with fail
          all_goals
            go_ret
            exact ⟨ret_int HF.out.symm, hbA⟩
        have g1 : 1 ≤ a1 := by omega
        clear hq
        by_cases hq : 1000000000 < a1
        · have HF : Hid (winF l = 4) := hscan.out.trans (scan_bad (by rw [HL.out]; exact hlt) (by rw [HA.out, HBAD]; omega))
          clear HBAD
          go_wp2_with fail
          all_goals
            go_ret
            exact ⟨ret_int HF.out.symm, hbA⟩
        have g2 : a1 ≤ 1000000000 := by omega
        clear hq
        by_cases hq : mn < a3
        · have HF : Hid (winF l = 4) := hscan.out.trans (scan_bad (by rw [HL.out]; exact hlt) (by rw [HA.out, HBAD]; have := (HMN.out a3).1 hq; omega))
          clear HBAD
          go_wp2_with fail
          all_goals
            go_ret
            exact ⟨ret_int HF.out.symm, hbA⟩
        have g3 : a3 ≤ mn := by omega
        clear hq
        by_cases hq : a4 < (if a5 < a6 then a6 else a5)
        · have HF : Hid (winF l = 4) := hscan.out.trans (scan_bad (by rw [HL.out]; exact hlt) (by rw [HA.out, HBAD]; split at hq <;> omega))
          clear HBAD
          go_wp2_with fail
          all_goals
            go_ret
            exact ⟨ret_int HF.out.symm, hbA⟩
        have g4 : (if a5 < a6 then a6 else a5) ≤ a4 := by omega
        clear hq
        have HB : Hid (¬ badW (l.getD k [])) := by
          show ¬ _
          rw [HA.out, HBAD]
          have := HMN.out a3; split at g4 <;> omega
        clear HBAD
        by_cases h0 : k = 0
        · have HN : Hid (winF l = scanW (prevT l (k + 1)) (l.drop (k + 1))) := by
            subst h0
            exact hscan.out.trans (scan_first (by rw [HL.out]; exact hlt) HB.out)
          have t0 : decide ((0 : Int) < (k : Int)) = false := decide_eq_false (by omega)
          have t1 : decide (0 < k) = false := decide_eq_false (by omega)
          clear h0
          go_wp2_with fail
          all_goals
            go_quiet (fail)
            go_wp2
            go_roundw
            case rel => exact ⟨k + 1, by omega, by go_num, rfl, below_drewN hbA _, HN⟩
            case measure => simp [intOf]; omega
        · obtain ⟨j, rfl⟩ : ∃ j, k = j + 1 := ⟨k - 1, by omega⟩
          obtain ⟨b', off', hbo, hj1, hcj⟩ := (hs.below hbr).rowk HL.out hr (show j < n by omega)
          simp only [Option.some.injEq, Addr.mk.injEq, and_true] at hbo
          obtain ⟨rfl, rfl⟩ := hbo
          have d0 : _ = some (Value.int .i64 ((l.getD j []).getD 0 0)) := hcj 0 (by decide)
          rw [Nat.add_zero] at d0
          have hnw : b < wr.heap.size := cell_lt d0
          have hnew : wr.heap.size ≠ b := by omega
          have hnew2 : b ≠ wr.heap.size := by omega
          clear hcj hj1 h0
          have hX : rg (l.getD j []) 0 = (l.getD j []).getD 0 0 := rfl
          generalize (l.getD j []).getD 0 0 = x at *
          have HX := Lib.hid hX
          clear hX
          have t0 : decide ((0 : Int) < (j + 1 : Nat)) = true := by simp
          have t0' : decide ((0 : Int) < (j : Int) + 1) = true := decide_eq_true (by omega)
          have i0 : ((j + 1 : Nat) : Int) - 1 = (j : Int) := by omega
          have i1 : IntKind.i64.wrap ((j : Int) + 1 - 1) = (j : Int) := by rw [IntWalk.i64_in _ (by omega)]; omega
          have i6 : IntKind.i64.wrap (j : Int) = (j : Int) := IntWalk.i64_in _ (by omega)
          have i2 : ((j : Int) + 1).toNat = j + 1 := by omega
          have i3 : (j : Int) + 1 < n := by omega
          have i4 : 0 ≤ (j : Int) + 1 := by omega
          have i5 : (j : Int) < n := by omega
          by_cases hle : a0 ≤ x
          · have HF : Hid (winF l = 5) := hscan.out.trans (scan_late (by rw [HL.out]; exact hlt) HB.out (by rw [HA.out, HX.out]; exact hle))
            go_wp2_with fail
            all_goals
              go_quiet (fail)
              go_wp2_with fail
              go_ret
              exact ⟨ret_int HF.out.symm, below_drewN hbA _⟩
          · have HN : Hid (winF l = scanW (prevT l (j + 1 + 1)) (l.drop (j + 1 + 1))) := hscan.out.trans (scan_next (by rw [HL.out]; exact hlt) HB.out (by rw [HA.out, HX.out]; exact hle))
            have hlt' : x < a0 := by omega
            clear hle
            go_wp2_with fail
            all_goals
              go_quiet (fail)
              go_wp2
              go_roundw
              case rel => exact ⟨j + 1 + 1, by omega, by go_num, rfl, below_drewN hbA _, HN⟩
              case measure => simp [intOf]; omega
      · have HF : Hid (winF l = 0) := hscan.out.trans (scan_end (by rw [HL.out]; omega))
        go_wp2_with fail
        go_ret
        exact ⟨ret_int HF.out.symm, hbr⟩

end Go.Proofs.Ytmbmognhbljliaa.Win
