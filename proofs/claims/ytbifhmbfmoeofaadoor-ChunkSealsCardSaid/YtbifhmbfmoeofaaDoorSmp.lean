/-
  The walks of SamplesFault and chunk.Check: are samples in the order of their times?
-/
import Derived.Test.YtbifhmbfmoeofaaDoorRows
import Derived.Test.YtbifhmbfmoeofaaDoorSamples
import Derived.IntWalk
namespace Go.Proofs.YtbifhmbfmoeofaaDoor.Smp
open Go.RowKit Go.Gh
set_option linter.unusedVariables false

/-- Field j of row i. -/
def fld (l : List (List Int)) (i j : Nat) : Int := (l.getD i []).getD j 0
def Ordered (l : List (List Int)) : Prop := ∀ i, i + 1 < l.length → fld l i 0 < fld l (i + 1) 0
open Classical in
noncomputable def sampF (l : List (List Int)) : Int := if 1000 < l.length then 2 else if Ordered l then 0 else 5

theorem samplesfault_any (v : Value) (n : Nat) (l : List (List Int)) (w : World) (hs : Sl w 2 v n (rowCells l)) (hl : l.length = n) (hr : Rows64 2 l) (hn : n ≤ 140737488355328) :
    Calls Tryd.prog 10 #[v] w fun e w' => e = .returned (.int .i64 (sampF l)) ∧ Below w.heap.size w w' := by
  obtain ⟨ao, c, rfl, hnc, hc, _⟩ := hs.shape
  have HL := Lib.hid hl
  by_cases hbig : 1000 < n
  · have HF : Hid (sampF l = 2) := if_pos (by omega)
    clear hl
    go_enter Tryd.func10, Tryd.ntmps10
    go_wp2_with fail
    go_ret
    exact ⟨ret_int HF.out.symm, Below.refl _ _⟩
  · clear hl
    go_enter Tryd.func10, Tryd.ntmps10
    go_wp2_with fail
    go_loopw [2, 9] (fun r i wr => ∃ k : Nat, k ≤ n ∧ i = .int .i64 k ∧ r = .int .i64 0 ∧ Below w.heap.size w wr ∧ Hid (∀ i, i + 1 < k → fld l i 0 < fld l (i + 1) 0)) (fun _ i _ => n - (intOf i).toNat)
    case atStart => exact ⟨0, by omega, rfl, rfl, Below.refl _ _, fun i hi => by omega⟩
    case round =>
      obtain ⟨k, hk, rfl, rfl, hbr, hord⟩ := hrel
      by_cases hlt : k < n
      · obtain ⟨b, off, rfl, hk1, hk2, hck⟩ := (hs.below hbr).row HL.out hr hlt
        have c1 := hck 0 (by decide)
        rw [Nat.add_zero] at c1
        clear hck
        by_cases h0 : k = 0
        · subst h0
          go_wp2_with fail
          go_quiet (fail)
          go_wp2
          go_roundw
          case rel => exact ⟨1, by omega, rfl, rfl, below_drewN hbr _, fun i hi => by omega⟩
          case measure => simp [intOf]; omega
        · obtain ⟨j, rfl⟩ : ∃ j, k = j + 1 := ⟨k - 1, by omega⟩
          obtain ⟨b', off', hbo, hj1, hj2, hcj⟩ := (hs.below hbr).row HL.out hr (show j < n by omega)
          simp only [Option.some.injEq, Addr.mk.injEq, and_true] at hbo
          obtain ⟨rfl, rfl⟩ := hbo
          have c0 := hcj 0 (by decide)
          rw [Nat.add_zero] at c0
          clear hcj
          have hA : fld l j 0 = (l.getD j []).getD 0 0 := rfl
          have hB : fld l (j + 1) 0 = (l.getD (j + 1) []).getD 0 0 := rfl
          rw [← hA] at c0
          rw [← hB] at c1
          clear hA hB
          have d0 : decide ((0 : Int) < (j + 1 : Nat)) = true := by simp
          have i1 : ((j + 1 : Nat) : Int) - 1 = (j : Int) := by omega
          generalize hx : fld l j 0 = x at *
          generalize hy : fld l (j + 1) 0 = y at *
          have HX := Lib.hid hx
          have HY := Lib.hid hy
          clear hx hy h0
          by_cases hle : y ≤ x
          · go_wp2_with fail
            go_quiet (fail)
            have HF : Hid (sampF l = 5) := by
              show _ = _
              unfold sampF
              rw [if_neg (by rw [HL.out]; omega), if_neg]
              intro ho
              have := ho j (by rw [HL.out]; omega)
              rw [HX.out, HY.out] at this
              omega
            go_wp2_with fail
            go_ret
            exact ⟨ret_int HF.out.symm, below_drewN hbr _⟩
          · have hlt' : x < y := by omega
            have HN : Hid (∀ i, i + 1 < j + 1 + 1 → fld l i 0 < fld l (i + 1) 0) := by
              intro i hi
              rcases Nat.lt_or_eq_of_le (Nat.le_of_lt_succ hi) with h | h
              · exact hord.out i h
              · obtain rfl : i = j := by omega
                rw [HX.out, HY.out]; exact hlt'
            go_wp2_with fail
            go_quiet (fail)
            go_wp2
            go_roundw
            case rel => exact ⟨j + 1 + 1, by omega, by go_num, rfl, below_drewN hbr _, HN⟩
            case measure => simp [intOf]; omega
      · obtain rfl : k = n := by omega
        have HF : Hid (sampF l = 0) := by
          show _ = _
          unfold sampF
          rw [if_neg (by rw [HL.out]; omega), if_pos]
          intro i hi
          exact hord.out i (by rw [HL.out] at hi; exact hi)
        go_wp2_with fail
        go_ret
        exact ⟨ret_int HF.out.symm, hbr⟩

theorem check_any (v : Value) (n : Nat) (l : List (List Int)) (w : World) (hs : Sl w 2 v n (rowCells l)) (hl : l.length = n) (hr : Rows64 2 l) (hn : n ≤ 140737488355328) :
    Calls Tryd.prog 11 #[v] w fun e w' => e = .returned (.int .i64 (sampF l)) ∧ Below w.heap.size w w' := by
  obtain ⟨ao, c, rfl, hnc, hc, _⟩ := hs.shape
  have HL := Lib.hid hl
  by_cases hbig : 1000 < n
  · have HF : Hid (sampF l = 2) := if_pos (by omega)
    clear hl
    go_enter Tryd.func11, Tryd.ntmps11
    go_wp2_with fail
    go_ret
    exact ⟨ret_int HF.out.symm, Below.refl _ _⟩
  · clear hl
    go_enter Tryd.func11, Tryd.ntmps11
    go_wp2_with fail
    go_loopw [2, 3] (fun r i wr => ∃ k : Nat, k ≤ n ∧ i = .int .i64 (k + 1) ∧ r = .int .i64 0 ∧ Below w.heap.size w wr ∧ Hid (∀ i, i < k → i + 1 < n → fld l i 0 < fld l (i + 1) 0)) (fun _ i _ => n + 1 - (intOf i).toNat)
    case atStart => exact ⟨0, by omega, rfl, rfl, Below.refl _ _, fun i hi => by omega⟩
    case round =>
      obtain ⟨j, hk, rfl, rfl, hbr, hord⟩ := hrel
      by_cases hlt : j + 1 < n
      · obtain ⟨b, off, rfl, hk1, hk2, hck⟩ := (hs.below hbr).row HL.out hr hlt
        have c1 := hck 0 (by decide)
        rw [Nat.add_zero] at c1
        clear hck
        obtain ⟨b', off', hbo, hj1, hj2, hcj⟩ := (hs.below hbr).row HL.out hr (show j < n by omega)
        simp only [Option.some.injEq, Addr.mk.injEq, and_true] at hbo
        obtain ⟨rfl, rfl⟩ := hbo
        have c0 := hcj 0 (by decide)
        rw [Nat.add_zero] at c0
        clear hcj
        have hA : fld l j 0 = (l.getD j []).getD 0 0 := rfl
        have hB : fld l (j + 1) 0 = (l.getD (j + 1) []).getD 0 0 := rfl
        rw [← hA] at c0
        rw [← hB] at c1
        clear hA hB
        generalize hx : fld l j 0 = x at *
        generalize hy : fld l (j + 1) 0 = y at *
        have HX := Lib.hid hx
        have HY := Lib.hid hy
        clear hx hy
        have i1 : IntKind.i64.wrap ((j : Int) + 1 - 1) = (j : Int) := by rw [IntWalk.i64_in _ (by omega)]; omega
        have i2 : ((j : Int) + 1).toNat = j + 1 := by omega
        have i3 : (j : Int) + 1 < n := by omega
        have i4 : 0 ≤ (j : Int) + 1 := by omega
        have i5 : (j : Int) < n := by omega
        by_cases hle : y ≤ x
        · go_wp2_with fail
          go_quiet (fail)
          have HF : Hid (sampF l = 5) := by
            show _ = _
            unfold sampF
            rw [if_neg (by rw [HL.out]; omega), if_neg]
            intro ho
            have := ho j (by rw [HL.out]; omega)
            rw [HX.out, HY.out] at this
            omega
          go_wp2_with fail
          go_ret
          exact ⟨ret_int HF.out.symm, below_drewN hbr _⟩
        · have hlt' : x < y := by omega
          have HN : Hid (∀ i, i < j + 1 → i + 1 < n → fld l i 0 < fld l (i + 1) 0) := by
            intro i hi hi2
            rcases Nat.lt_or_eq_of_le (Nat.le_of_lt_succ hi) with h | h
            · exact hord.out i h hi2
            · obtain rfl : i = j := h
              rw [HX.out, HY.out]; exact hlt'
          go_wp2_with fail
          go_quiet (fail)
          go_wp2
          go_roundw
          case rel => exact ⟨j + 1, by omega, by go_num, rfl, below_drewN hbr _, HN⟩
          case measure => simp [intOf]; omega
      · have HF : Hid (sampF l = 0) := by
          show _ = _
          unfold sampF
          rw [if_neg (by rw [HL.out]; omega), if_pos]
          intro i hi
          rw [HL.out] at hi
          exact hord.out i (by omega) hi
        go_wp2_with fail
        go_ret
        exact ⟨ret_int HF.out.symm, hbr⟩
end Go.Proofs.YtbifhmbfmoeofaaDoor.Smp
