/-
  The walks of small functions on windows.
-/
import Derived.Test.YtmbmognhbljliaaRows
import Derived.Test.YtmbmognhbljliaaSamples
import Derived.Test.YtmbmognhbljliaaRollLaw
import Derived.IntWalk
namespace Go.Proofs.Ytmbmognhbljliaa.Roll
open Go.RowKit Go.Gh
set_option linter.unusedVariables false

theorem start_facts (t width : Int) (h : 1 ≤ width) : startW t width = t / width * width ∧ t - t % width = t / width * width := by
  have h1 := Int.emod_add_mul_ediv t width
  unfold startW
  rw [Int.mul_comm (t / width)]
  omega

theorem start_any (t width : Int) (ht : goodT t) (h1 : 1 ≤ width) (h2 : width ≤ 1099511627776) (w : World) :
    Calls Try.prog 85 #[.int .i64 t, .int .i64 width] w fun e w' => e = .returned (.int .i64 (startW t width)) ∧ w = w' := by
  obtain ⟨t0, t1⟩ := ht
  have m0 := Int.emod_nonneg t (show width ≠ 0 by omega)
  have m1 := Int.emod_lt_of_pos t (show 0 < width by omega)
  have hz : (width == 0) = false := by simp; omega
  by_cases hneg : t.tmod width < 0
  · have e : t.tmod width + width = t % width := by
      rcases Int.le_total 0 t with h | h
      · rw [Int.tmod_eq_emod_of_nonneg h] at hneg; omega
      · have := Int.tmod_add_mul_tdiv t width
        have := Int.emod_add_mul_ediv t width
        rw [Int.tmod_eq_emod] at hneg ⊢
        split at hneg <;> rename_i hc
        · omega
        · rw [if_neg hc]
          have : (width.natAbs : Int) = width := by omega
          omega
    have HE := Lib.hid e
    have b0 : -1099511627776 ≤ t.tmod width := by omega
    clear e
    go_enter Try.func85, Try.ntmps85
    go_wp2_with fail
    go_ret
    refine ⟨ret_int ?_, rfl⟩
    have := HE.out
    unfold startW
    go_arith
  · have e : t.tmod width = t % width := by
      rw [Int.tmod_eq_emod] at hneg ⊢
      split at hneg <;> rename_i hc
      · rw [if_pos hc]; omega
      · rw [if_neg hc]
        have : (width.natAbs : Int) = width := by omega
        omega
    have HE := Lib.hid e
    have b0 : t.tmod width < 1099511627776 := by omega
    clear e
    go_enter Try.func85, Try.ntmps85
    go_wp2_with fail
    go_ret
    refine ⟨ret_int ?_, rfl⟩
    have := HE.out
    unfold startW
    go_arith

theorem goodtime_any (t : Int) (w : World) :
    Calls Try.prog 69 #[.int .i64 t] w fun e w' => e = .returned (.bool (decide (goodT t))) ∧ w = w' := by
  by_cases h1 : -1152921504606846976 ≤ t
  · by_cases h2 : t ≤ 1152921504606846976
    · have HD : Hid (decide (goodT t) = true) := decide_eq_true ⟨h1, h2⟩
      go_enter Try.func69, Try.ntmps69
      go_wp2_with fail
      go_ret
      exact ⟨ret_bool (by first | exact HD.out.symm | (rw [HD.out]; simp; omega)), rfl⟩
    · have HD : Hid (decide (goodT t) = false) := decide_eq_false (fun h => h2 h.2)
      go_enter Try.func69, Try.ntmps69
      go_wp2_with fail
      go_ret
      exact ⟨ret_bool (by first | exact HD.out.symm | (rw [HD.out]; simp; omega)), rfl⟩
  · have HD : Hid (decide (goodT t) = false) := decide_eq_false (fun h => h1 h.1)
    go_enter Try.func69, Try.ntmps69
    go_wp2_with fail
    go_ret
    exact ⟨ret_bool (by first | exact HD.out.symm | (rw [HD.out]; simp; omega)), rfl⟩

theorem tdiv_near (t width : Int) (h : 1 ≤ width) : t.tdiv width = t / width ∨ t.tdiv width = t / width + 1 := by
  rw [Int.tdiv_eq_ediv]
  split
  · left; omega
  · have : width.sign = 1 := Int.sign_eq_one_of_pos (by omega)
    right; omega
theorem startof_any (t width : Int) (ht : goodT t) (h1 : 1 ≤ width) (h2 : width ≤ 1099511627776) (w : World) :
    Calls Try.prog 70 #[.int .i64 t, .int .i64 width] w fun e w' => e = .returned (.int .i64 (startW t width)) ∧ w = w' := by
  obtain ⟨t0, t1⟩ := ht
  have m0 := Int.emod_nonneg t (show width ≠ 0 by omega)
  have m1 := Int.emod_lt_of_pos t (show 0 < width by omega)
  have hz : (width == 0) = false := by simp; omega
  have hst := (start_facts t width h1).1
  have hP := (start_facts t width h1).2
  have hn := tdiv_near t width h1
  have q1 : (t / width + 1) * width = t / width * width + width := by rw [Int.add_mul, Int.one_mul]
  have HS := Lib.hid hst
  have hq0 : -1152922604118474751 ≤ t / width ∧ t / width ≤ 1152921504606846976 := by
    rcases Int.le_total 0 (t / width) with h | h
    · have h3 : t / width * 1 ≤ t / width * width := Int.mul_le_mul_of_nonneg_left h1 h
      omega
    · have h3 : t / width * width ≤ t / width * 1 := Int.mul_le_mul_of_nonpos_left h h1
      omega
  obtain ⟨P, hPQ⟩ : ∃ P, t / width * width = P := ⟨_, rfl⟩
  rw [hPQ] at hst hP q1 HS
  generalize t / width = Q at *
  have hPt : t - width < P ∧ P ≤ t := by omega
  obtain ⟨p1, p2⟩ := hPt
  clear hP hst m0 m1
  have hX0 : t.tdiv width = Q ∨ t.tdiv width = Q + 1 := hn
  clear hn
  have HX := Lib.hid hX0
  have hXb : -1152922604118474751 ≤ t.tdiv width ∧ t.tdiv width ≤ 1152921504606846977 := by omega
  clear hX0
  go_enter Try.func70, Try.ntmps70
  go_wp2_with fail
  go_loop [5] (fun q => ∃ X : Int, q = .int .i64 X ∧ Hid (X = Q ∨ X = Q + 1) ∧ -1152922604118474751 ≤ X ∧ X ≤ 1152921504606846977) (fun q => (intOf q - Q).toNat)
  case atStart => exact ⟨_, rfl, HX, hXb.1, hXb.2⟩
  case round =>
    obtain ⟨X, rfl, hX, x0, x1⟩ := hrel
    rcases hX.out with h | h
    · have hp : X * width = P := by rw [h]; exact hPQ
      have HP := Lib.hid h
      clear h hPQ q1 hX
      go_wp2_with fail
      go_ret
      exact ⟨ret_int HS.out.symm, rfl⟩
    · have hp : X * width = P + width := by rw [h]; exact q1
      have HP := Lib.hid h
      have hg : t < P + width := by omega
      clear h hPQ q1 hX
      go_wp2_with fail
      go_round
      case rel => exact ⟨X - 1, rfl, Or.inl (by rw [HP.out]; omega), by have := HP.out; omega, by omega⟩
      case measure =>
        have h9 := HP.out
        show (X - 1 - Q).toNat < (X - Q).toNat
        omega
end Go.Proofs.Ytmbmognhbljliaa.Roll
