/-
  Rows of cells that count the same: as plain functions.
-/
import Derived.WalkKit
namespace Go.Gh
open Go.RowKit
set_option linter.unusedVariables false

/-- A row: none below nought, none above what is left; all is used in the end. -/
def rowF : Int → List Int → Bool
  | left, [] => decide (left = 0)
  | left, x :: r => if x < 0 ∨ left < x then false else rowF (left - x) r
def chunkOf (c : List Int) (W i : Nat) : List Int := (c.drop (i * W)).take W
def sizeOk (D W : Int) : Prop := 1 ≤ D ∧ D ≤ 8 ∧ 1 ≤ W ∧ W ≤ 200
instance (D W : Int) : Decidable (sizeOk D W) := inferInstanceAs (Decidable (_ ∧ _))
def headOk (D W : Int) (c : List Int) (N : Int) : Prop := sizeOk D W ∧ (c.length : Int) = D * W ∧ 0 ≤ N ∧ N ≤ 1152921504606846976
instance (D W : Int) (c : List Int) (N : Int) : Decidable (headOk D W c N) := inferInstanceAs (Decidable (_ ∧ _))
def rowsOk (D W : Nat) (c : List Int) (N : Int) : Prop := ∀ i, i < D → rowF N (chunkOf c W i) = true
instance (D W : Nat) (c : List Int) (N : Int) : Decidable (rowsOk D W c N) := inferInstanceAs (Decidable (∀ i, i < D → _))
def skF (D W : Int) (c : List Int) (N : Int) : Int := if headOk D W c N ∧ rowsOk D.toNat W.toNat c N then 0 else 4
theorem sk_head {D W : Int} {c : List Int} {N : Int} (h : ¬ headOk D W c N) : skF D W c N = 4 := if_neg fun h' => h h'.1
theorem sk_bad {D W : Nat} {c : List Int} {N : Int} {i : Nat} (hi : i < D) (h : rowF N (chunkOf c W i) = false) : skF D W c N = 4 := by
  unfold skF
  rw [if_neg]
  rintro ⟨_, h'⟩
  have := h' i (by simpa using hi)
  rw [Int.toNat_natCast, h] at this
  simp at this
theorem sk_ok {D W : Nat} {c : List Int} {N : Int} (h : headOk D W c N) (hr : rowsOk D W c N) : skF D W c N = 0 := by
  unfold skF
  rw [if_pos]
  exact ⟨h, by simpa using hr⟩
theorem sk_zero {D W : Nat} {c : List Int} {N : Int} (h : skF D W c N = 0) : headOk D W c N ∧ rowsOk D W c N := by
  unfold skF at h
  split at h
  · rename_i h'; simpa using h'
  · simp at h
/-- How far a row has been read. -/
theorem rowF_step {left x : Int} {r : List Int} (h0 : 0 ≤ x) (h1 : x ≤ left) : rowF left (x :: r) = rowF (left - x) r := by
  rw [rowF, if_neg (by omega)]
theorem rowF_bad {left x : Int} {r : List Int} (h : x < 0 ∨ left < x) : rowF left (x :: r) = false := by
  rw [rowF, if_pos h]
theorem drop_int {l : List Int} {k : Nat} (h : k < l.length) : l.drop k = l.getD k 0 :: l.drop (k + 1) := by
  rw [List.drop_eq_getElem_cons h, List.getD_eq_getElem?_getD, List.getElem?_eq_getElem h]; rfl
theorem chunk_len {c : List Int} {W i D : Nat} (hc : c.length = D * W) (hi : i < D) : (chunkOf c W i).length = W := by
  unfold chunkOf
  rw [List.length_take, List.length_drop, hc]
  have : (i + 1) * W ≤ D * W := Nat.mul_le_mul_right _ hi
  rw [Nat.succ_mul] at this
  omega
theorem chunk_get {c : List Int} {W i D j : Nat} (hc : c.length = D * W) (hi : i < D) (hj : j < W) : (chunkOf c W i).getD j 0 = c.getD (i * W + j) 0 := by
  unfold chunkOf
  rw [List.getD_eq_getElem?_getD, List.getElem?_take, if_pos hj, List.getElem?_drop, ← List.getD_eq_getElem?_getD]
theorem chunk_end {i W D : Nat} (hi : i < D) : i * W + W ≤ D * W := by
  have : (i + 1) * W ≤ D * W := Nat.mul_le_mul_right _ hi
  rwa [Nat.succ_mul] at this
def clampI (D i : Nat) : Nat := min i (D - 1)
theorem clamp_lt {D : Nat} (hD : 0 < D) (i : Nat) : clampI D i < D := by unfold clampI; omega
theorem clamp_id {D i : Nat} (hi : i < D) : clampI D i = i := by unfold clampI; omega
end Go.Gh
