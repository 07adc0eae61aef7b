/-
  The walks of rate's time, of math/bits.Mul64; what Per answers, as a plain function.
-/
import Derived.Test.YtmbmognhbljliaaRate1
namespace Go.Proofs.Ytmbmognhbljliaa.Rate
open Go.RowKit Go.Gh Go.Proofs.Ytmbmognhbljliaa.Sam Go.Proofs.Ytmbmognhbljliaa.Smp Go.Lib
set_option linter.unusedVariables false
theorem time_any (t : Int) (w : World) :
    Calls Try.prog 80 #[.int .i64 t] w fun e w' => e = .returned (.bool (decide (goodT t))) ∧ w = w' := by
  by_cases h1 : -1152921504606846976 ≤ t
  · by_cases h2 : t ≤ 1152921504606846976
    · have HD : Hid (decide (goodT t) = true) := decide_eq_true ⟨h1, h2⟩
      go_enter Try.func80, Try.ntmps80
      go_wp2_with fail
      go_ret
      exact ⟨ret_bool (by first | exact HD.out.symm | (rw [HD.out]; simp; omega)), rfl⟩
    · have HD : Hid (decide (goodT t) = false) := decide_eq_false (fun h => h2 h.2)
      go_enter Try.func80, Try.ntmps80
      go_wp2_with fail
      go_ret
      exact ⟨ret_bool (by first | exact HD.out.symm | (rw [HD.out]; simp; omega)), rfl⟩
  · have HD : Hid (decide (goodT t) = false) := decide_eq_false (fun h => h1 h.1)
    go_enter Try.func80, Try.ntmps80
    go_wp2_with fail
    go_ret
    exact ⟨ret_bool (by first | exact HD.out.symm | (rw [HD.out]; simp; omega)), rfl⟩

set_option maxHeartbeats 1000000 in
theorem mul64_any (x y : Nat) (hx : x < 18446744073709551616) (hy : y < 18446744073709551616) (w : World) :
    Calls Try.prog 81 #[.int .u64 x, .int .u64 y] w fun e w' => e = .returned (.tuple #[.int .u64 ((x * y / 18446744073709551616 : Nat) : Int), .int .u64 ((x * y % 18446744073709551616 : Nat) : Int)]) ∧ w' = w := by
  obtain ⟨bd, bt, bw, hhi⟩ := Lib.mul64_hi x y hx hy
  have ba := Lib.half_mul_le (a := x / 4294967296) (b := y / 4294967296) (by omega) (by omega)
  have bb := Lib.half_mul_le (a := x / 4294967296) (b := y % 4294967296) (by omega) (by omega)
  have bc := Lib.half_mul_le (a := x % 4294967296) (b := y / 4294967296) (by omega) (by omega)
  have ba' : x / 4294967296 * (y / 4294967296) < 18446744073709551616 := by omega
  have bb' : x / 4294967296 * (y % 4294967296) < 18446744073709551616 := by omega
  have bc' : x % 4294967296 * (y / 4294967296) < 18446744073709551616 := by omega
  have bh1 : x / 4294967296 * (y / 4294967296) + (x / 4294967296 * (y % 4294967296) + x % 4294967296 * (y % 4294967296) / 4294967296) / 4294967296 < 18446744073709551616 := by omega
  have bh : x / 4294967296 * (y / 4294967296) + (x / 4294967296 * (y % 4294967296) + x % 4294967296 * (y % 4294967296) / 4294967296) / 4294967296 + ((x / 4294967296 * (y % 4294967296) + x % 4294967296 * (y % 4294967296) / 4294967296) % 4294967296 + x % 4294967296 * (y / 4294967296)) / 4294967296 < 18446744073709551616 := by omega
  go_enter Try.func81, Try.ntmps81
  go_wp2
  simp only [Mul64.maskN x hx, Mul64.maskN y hy, Mul64.divN, Mul64.mulN, Mul64.addN, Mul64.wrapN _ bd, Mul64.wrapN _ bb', Mul64.wrapN _ bt, Mul64.maskN _ bt, Mul64.wrapN _ bc', Mul64.wrapN _ bw, Mul64.wrapN _ ba', Mul64.wrapN _ bh1, Mul64.wrapN _ bh, Mul64.wrapM (x * y)]
  rw [hhi]
  go_ret2
  exact ⟨rfl, rfl⟩
/-- The two halves of a product, told by what is asked of them. -/
theorem mul_any (g unit : Int) (h0 : 0 ≤ g) (h1 : g < 18446744073709551616) (h2 : 0 ≤ unit) (h3 : unit < 18446744073709551616) (w : World) :
    Calls Try.prog 81 #[.int .u64 g, .int .u64 unit] w fun e w' => (∃ hi lo : Int, e = .returned (.tuple #[.int .u64 hi, .int .u64 lo]) ∧ 0 ≤ hi ∧ 0 ≤ lo ∧ lo < 18446744073709551616 ∧ Hid ((9223372036854775808 ≤ g * unit → 0 < hi ∨ (hi = 0 ∧ 9223372036854775808 ≤ lo)) ∧ (g * unit < 9223372036854775808 → hi = 0 ∧ lo = g * unit))) ∧ w' = w := by
  obtain ⟨x, rfl⟩ : ∃ x : Nat, g = x := ⟨g.toNat, by omega⟩
  obtain ⟨y, rfl⟩ : ∃ y : Nat, unit = y := ⟨unit.toNat, by omega⟩
  refine (mul64_any x y (by omega) (by omega) w).mono ?_
  rintro e w' ⟨rfl, rfl⟩
  have e1 : (x : Int) * (y : Int) = ((x * y : Nat) : Int) := (Int.natCast_mul x y).symm
  refine ⟨⟨_, _, rfl, by omega, by omega, by omega, ?_⟩, rfl⟩
  show _ ∧ _
  rw [e1]
  generalize x * y = p
  constructor
  · intro h
    by_cases hp : 18446744073709551616 ≤ p
    · left; omega
    · right; omega
  · intro h
    constructor <;> omega
def sumM (m : List (List Int)) : Int := IntKind.u64.wrap (gS m m.length)
def spanM (m : List (List Int)) : Int := rg (m.getD (m.length - 1) []) 0 - rg (m.getD 0 []) 0
def perM (m : List (List Int)) (unit : Int) : Int × Int := if 9223372036854775808 ≤ sumM m * unit then (0, 2) else ((sumM m * unit).tdiv (spanM m), 0)
def badArgs (fr till unit : Int) : Prop := till ≤ fr ∨ ¬ goodT fr ∨ ¬ goodT till ∨ unit < 1 ∨ 1099511627776 < unit
open Classical in
noncomputable def perR (l : List (List Int)) (fr till unit : Int) : Int × Int :=
  if counterF l = 0 then if badArgs fr till unit then (0, 1) else if (betF fr till l).length < 2 then (0, 13) else perM (betF fr till l) unit
  else (0, counterF l)
def PerPost (w : World) (r : Int × Int) (e : Ending) (w' : World) : Prop := e = .returned (.tuple #[.int .i64 r.1, .int .i64 r.2]) ∧ Below w.heap.size w w'
theorem per_post {w w' : World} {r : Int × Int} {a c : Int} (h : r = (a, c)) (hb : Below w.heap.size w w') : PerPost w r (.returned (.tuple #[.int .i64 a, .int .i64 c])) w' := by
  subst h; exact ⟨rfl, hb⟩
theorem per_bad {l : List (List Int)} {fr till unit c : Int} (h : counterF l = c) (hc : c ≠ 0) : perR l fr till unit = (0, c) := by
  unfold perR; rw [h, if_neg hc]
theorem per_args {l : List (List Int)} {fr till unit : Int} (h : counterF l = 0) (hb : badArgs fr till unit) : perR l fr till unit = (0, 1) := by
  unfold perR; rw [if_pos h, if_pos hb]
theorem per_few {l : List (List Int)} {fr till unit : Int} (h : counterF l = 0) (hb : ¬ badArgs fr till unit) (hf : (betF fr till l).length < 2) : perR l fr till unit = (0, 13) := by
  unfold perR; rw [if_pos h, if_neg hb, if_pos hf]
theorem per_rest {l : List (List Int)} {fr till unit : Int} (h : counterF l = 0) (hb : ¬ badArgs fr till unit) (hf : ¬ (betF fr till l).length < 2) : perR l fr till unit = perM (betF fr till l) unit := by
  unfold perR; rw [if_pos h, if_neg hb, if_neg hf]
/-- What the middle part of a counter's samples is. -/
theorem mid_ok {l : List (List Int)} {fr till : Int} (h : counterF l = 0) : sampF (betF fr till l) = 0 ∧ NoNeg (betF fr till l) (betF fr till l).length ∧ l.length ≤ 1000 ∧ Asc (betF fr till l) := by
  have h1 : sampF l = 0 := by
    by_cases hs : sampF l = 0
    · exact hs
    · rw [counter_bad hs] at h; exact h
  have h2 : NoNeg l l.length := by
    unfold counterF at h
    rw [if_pos h1] at h
    by_cases hn : NoNeg l l.length
    · exact hn
    · rw [if_neg hn] at h; simp at h
  have h3 := fault_small h1
  have h4 := (fault_asc h1).betF fr till
  refine ⟨?_, noNeg_mem (fun x hx => mem_noNeg h2 x (betF_sub hx)) (Nat.le_refl _), h3, h4⟩
  unfold sampF
  have := betF_len fr till l
  rw [if_neg (by omega), if_pos]
  intro i hi
  have := List.pairwise_iff_getElem.1 h4 i (i + 1) (by omega) hi (by omega)
  unfold fld
  rw [getD_at (by omega), getD_at hi]
  exact this
theorem mid_counter {l : List (List Int)} {fr till : Int} (h : counterF l = 0) : counterF (betF fr till l) = 0 := counter_ok (mid_ok h).1 rfl (mid_ok h).2.1
theorem mid_rows {l : List (List Int)} {k : Nat} (hr : Rows64 k l) (fr till : Int) : Rows64 k (betF fr till l) := fun r hr' => hr r (betF_sub hr')
/-- The first and the last time. -/
theorem mid_times {l : List (List Int)} {fr till : Int} (h : counterF l = 0) {p : Nat} (hp : (betF fr till l).length = p + 2) : fr ≤ rg ((betF fr till l).getD 0 []) 0 ∧ rg ((betF fr till l).getD 0 []) 0 < rg ((betF fr till l).getD (p + 1) []) 0 ∧ rg ((betF fr till l).getD (p + 1) []) 0 < till := by
  have ha := (mid_ok (fr := fr) (till := till) h).2.2.2
  refine ⟨?_, ?_, ?_⟩
  · exact (betF_fst (l := l) (by rw [getD_at (by omega)]; exact List.getElem_mem _)).1
  · have := List.pairwise_iff_getElem.1 ha 0 (p + 1) (by omega) (by omega) (by omega)
    rw [getD_at (by omega), getD_at (by omega)]
    exact this
  · exact (betF_fst (l := l) (by rw [getD_at (by omega)]; exact List.getElem_mem _)).2
theorem sumM_bounds (m : List (List Int)) : 0 ≤ sumM m ∧ sumM m < 18446744073709551616 := by
  unfold sumM; rw [IntKind.wrap_u64]; omega
end Go.Proofs.Ytmbmognhbljliaa.Rate
