/-
  Rows whose first numbers lie within bounds: by a filter, and by two places in a list that is in order.
-/
import Derived.Test.YtcljeedmiobepaaMergeLaw
namespace Go.Gh
set_option linter.unusedVariables false

def betF (fr till : Int) (l : List (List Int)) : List (List Int) := l.filter fun x => decide (fr ≤ rg x 0) && decide (rg x 0 < till)
theorem betF_nil (fr till : Int) : betF fr till [] = [] := rfl
theorem betF_len (fr till : Int) (l : List (List Int)) : (betF fr till l).length ≤ l.length := List.length_filter_le _ _
theorem take_getD {l : List (List Int)} {k : Nat} (h : k < l.length) : l.take (k + 1) = l.take k ++ [l.getD k []] := by
  rw [List.take_succ_eq_append_getElem h, List.getD_eq_getElem?_getD, List.getElem?_eq_getElem h]; rfl
theorem betF_in {fr till : Int} {l : List (List Int)} {k : Nat} (h : k < l.length) (h1 : fr ≤ rg (l.getD k []) 0) (h2 : rg (l.getD k []) 0 < till) : betF fr till (l.take (k + 1)) = betF fr till (l.take k) ++ [l.getD k []] := by
  rw [take_getD h]
  unfold betF
  rw [List.filter_append, List.filter_cons_of_pos (by rw [decide_eq_true h1, decide_eq_true h2]; rfl), List.filter_nil]
theorem betF_out {fr till : Int} {l : List (List Int)} {k : Nat} (h : k < l.length) (h1 : ¬ (fr ≤ rg (l.getD k []) 0 ∧ rg (l.getD k []) 0 < till)) : betF fr till (l.take (k + 1)) = betF fr till (l.take k) := by
  rw [take_getD h]
  unfold betF
  rw [List.filter_append, List.filter_cons_of_neg (by simp only [Bool.and_eq_true, decide_eq_true_eq]; exact h1), List.filter_nil, List.append_nil]
theorem mem_getD {l : List (List Int)} {x : List Int} (h : x ∈ l) : ∃ t, t < l.length ∧ l.getD t [] = x := by
  obtain ⟨t, ht, rfl⟩ := List.getElem_of_mem h
  exact ⟨t, ht, by rw [List.getD_eq_getElem?_getD, List.getElem?_eq_getElem ht]; rfl⟩
theorem getD_at {l : List (List Int)} {t : Nat} (ht : t < l.length) : l.getD t [] = l[t] := by
  rw [List.getD_eq_getElem?_getD, List.getElem?_eq_getElem ht]; rfl
/-- The place of the first element that is not below a bound. -/
def PlaceOf (b : Int) (l : List (List Int)) (i : Nat) : Prop := i ≤ l.length ∧ (∀ t, t < i → rg (l.getD t []) 0 < b) ∧ (∀ t, i ≤ t → t < l.length → b ≤ rg (l.getD t []) 0)
theorem bet_none {fr till : Int} {l : List (List Int)} {i k : Nat} (hi : PlaceOf fr l i) (hk : PlaceOf till l k) (h : k ≤ i) : betF fr till l = [] := by
  unfold betF
  rw [List.filter_eq_nil_iff]
  intro x hx
  obtain ⟨t, ht, rfl⟩ := mem_getD hx
  rcases Nat.lt_or_ge t i with h1 | h1
  · have := hi.2.1 t h1
    simp only [Bool.and_eq_true, decide_eq_true_eq]; omega
  · have := hk.2.2 t (by omega) ht
    simp only [Bool.and_eq_true, decide_eq_true_eq]; omega
theorem bet_some {fr till : Int} {l : List (List Int)} {i k : Nat} (hi : PlaceOf fr l i) (hk : PlaceOf till l k) (h : i ≤ k) : betF fr till l = (l.drop i).take (k - i) := by
  have hkl := hk.1
  have e : l = l.take i ++ (l.drop i).take (k - i) ++ l.drop k := by
    have h1 : (l.drop i).drop (k - i) = l.drop k := by rw [List.drop_drop]; congr 1; omega
    rw [List.append_assoc, ← h1, List.take_append_drop, List.take_append_drop]
  conv => lhs; rw [e]
  unfold betF
  rw [List.filter_append, List.filter_append]
  have a1 : (l.take i).filter (fun x => decide (fr ≤ rg x 0) && decide (rg x 0 < till)) = [] := by
    rw [List.filter_eq_nil_iff]
    intro x hx
    obtain ⟨t, ht, rfl⟩ := List.getElem_of_mem hx
    rw [List.length_take] at ht
    have := hi.2.1 t (by omega)
    rw [getD_at (by omega)] at this
    rw [List.getElem_take]
    simp only [Bool.and_eq_true, decide_eq_true_eq]; omega
  have a3 : (l.drop k).filter (fun x => decide (fr ≤ rg x 0) && decide (rg x 0 < till)) = [] := by
    rw [List.filter_eq_nil_iff]
    intro x hx
    obtain ⟨t, ht, rfl⟩ := List.getElem_of_mem hx
    rw [List.length_drop] at ht
    have := hk.2.2 (k + t) (by omega) (by omega)
    rw [getD_at (by omega)] at this
    rw [List.getElem_drop]
    simp only [Bool.and_eq_true, decide_eq_true_eq]; omega
  have a2 : ((l.drop i).take (k - i)).filter (fun x => decide (fr ≤ rg x 0) && decide (rg x 0 < till)) = (l.drop i).take (k - i) := by
    rw [List.filter_eq_self]
    intro x hx
    obtain ⟨t, ht, rfl⟩ := List.getElem_of_mem hx
    rw [List.length_take, List.length_drop] at ht
    have h1 := hi.2.2 (i + t) (by omega) (by omega)
    have h2 := hk.2.1 (i + t) (by omega)
    rw [getD_at (by omega)] at h1 h2
    rw [List.getElem_take, List.getElem_drop]
    simp only [Bool.and_eq_true, decide_eq_true_eq]; omega
  rw [a1, a2, a3, List.nil_append, List.append_nil]
theorem Asc.le {l : List (List Int)} (h : Asc l) {a b : Nat} (hab : a ≤ b) (hb : b < l.length) : rg (l.getD a []) 0 ≤ rg (l.getD b []) 0 := by
  rcases Nat.lt_or_eq_of_le hab with h1 | h1
  · have := List.pairwise_iff_getElem.1 h a b (by omega) hb h1
    rw [getD_at (by omega), getD_at hb]; omega
  · subst h1; omega
theorem Asc.betF {l : List (List Int)} (h : Asc l) (fr till : Int) : Asc (betF fr till l) := List.Pairwise.filter _ h
end Go.Gh
