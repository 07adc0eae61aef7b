/-
  How much a counter has grown: the true sum, and how often it began anew.
-/
import Derived.Test.YtmbmognhbljliaaRangeLaw
namespace Go.Gh
set_option linter.unusedVariables false

def vAt (l : List (List Int)) (i : Nat) : Int := rg (l.getD i []) 1
def gS (l : List (List Int)) : Nat → Int
  | 0 => 0
  | 1 => 0
  | k + 2 => gS l (k + 1) + (if vAt l (k + 1) < vAt l k then vAt l (k + 1) else vAt l (k + 1) - vAt l k)
def gA (l : List (List Int)) : Nat → Nat
  | 0 => 0
  | 1 => 0
  | k + 2 => gA l (k + 1) + (if vAt l (k + 1) < vAt l k then 1 else 0)
theorem gS_less {l : List (List Int)} {k : Nat} (h : vAt l (k + 1) < vAt l k) : gS l (k + 2) = gS l (k + 1) + vAt l (k + 1) := by rw [gS, if_pos h]
theorem gS_more {l : List (List Int)} {k : Nat} (h : ¬ vAt l (k + 1) < vAt l k) : gS l (k + 2) = gS l (k + 1) + (vAt l (k + 1) - vAt l k) := by rw [gS, if_neg h]
theorem gA_less {l : List (List Int)} {k : Nat} (h : vAt l (k + 1) < vAt l k) : gA l (k + 2) = gA l (k + 1) + 1 := by rw [gA, if_pos h]
theorem gA_more {l : List (List Int)} {k : Nat} (h : ¬ vAt l (k + 1) < vAt l k) : gA l (k + 2) = gA l (k + 1) := by rw [gA, if_neg h]; rfl
theorem gA_le (l : List (List Int)) : ∀ k, gA l k ≤ k
  | 0 => Nat.le_refl _
  | 1 => Nat.zero_le _
  | k + 2 => by
    rw [gA]
    have := gA_le l (k + 1)
    split <;> omega
/-- All measures are noughts or more, as far as k. -/
def NoNeg (l : List (List Int)) (k : Nat) : Prop := ∀ i, i < k → 0 ≤ vAt l i
instance (l : List (List Int)) (k : Nat) : Decidable (NoNeg l k) := inferInstanceAs (Decidable (∀ i, i < k → _))
theorem NoNeg.succ {l : List (List Int)} {k : Nat} (h : NoNeg l k) (hv : 0 ≤ vAt l k) : NoNeg l (k + 1) := fun i hi => by
  rcases Nat.lt_or_eq_of_le (Nat.le_of_lt_succ hi) with h' | h'
  · exact h i h'
  · rw [h']; exact hv
theorem wrap_u64_add (a b : Int) : IntKind.u64.wrap (IntKind.u64.wrap a + b) = IntKind.u64.wrap (a + b) := by
  rw [IntKind.wrap_u64, IntKind.wrap_u64, IntKind.wrap_u64]; omega
theorem wrap_u64_sub (a b : Int) : IntKind.u64.wrap (IntKind.u64.wrap a - b) = IntKind.u64.wrap (a - b) := by
  rw [IntKind.wrap_u64, IntKind.wrap_u64, IntKind.wrap_u64]; omega
theorem betF_fst {fr till : Int} {l : List (List Int)} {x : List Int} (h : x ∈ betF fr till l) : fr ≤ rg x 0 ∧ rg x 0 < till := by
  unfold betF at h
  have := (List.mem_filter.1 h).2
  simpa using this
theorem betF_sub {fr till : Int} {l : List (List Int)} {x : List Int} (h : x ∈ betF fr till l) : x ∈ l := (List.mem_filter.1 h).1
theorem noNeg_mem {l : List (List Int)} (h : ∀ x ∈ l, 0 ≤ rg x 1) {k : Nat} (hk : k ≤ l.length) : NoNeg l k := fun i hi => h _ (by
  rw [getD_at (by omega)]; exact List.getElem_mem _)
theorem mem_noNeg {l : List (List Int)} (h : NoNeg l l.length) : ∀ x ∈ l, 0 ≤ rg x 1 := by
  intro x hx
  obtain ⟨t, ht, rfl⟩ := mem_getD hx
  exact h t ht
/-- Too much: by a division, by the two halves of a product. -/
theorem too_much (n unit : Nat) (hu : 0 < unit) : (9223372036854775807 / unit < n ↔ 9223372036854775808 ≤ n * unit) := by
  rw [Nat.div_lt_iff_lt_mul hu]; omega
end Go.Gh
