/-
  Bits in a row with noughts behind them are the same bytes.
-/
import Derived.Test.YtbifhmbfmoeofaaDoorBitsLaw2
namespace Go.Gh
theorem low_bits' (z : Int) (m : Nat) : (∀ j, j < m → bitI z j = false) ↔ z % 2 ^ m = 0 := by
  constructor
  · intro h
    rw [← val_signs]
    have : ∀ k, k ≤ m → ∀ s acc, acc = 0 → s = signs z k → valF acc s = 0 := by
      intro k
      induction k with
      | zero => intro _ s acc ha hs; subst ha hs; rfl
      | succ k ih =>
        intro hk s acc ha hs
        subst ha hs
        simp only [signs, valF]
        exact ih (by omega) _ _ (by rw [h k (by omega)]; rfl) rfl
    exact this m (Nat.le_refl _) _ 0 rfl rfl
  · intro h j hj
    rw [← bitI_mod z m j hj, h, bitI_zero]
theorem getD_pad (s : List Bool) (m i : Nat) : (s ++ List.replicate m false).getD i false = s.getD i false := by
  rw [List.getD_eq_getElem?_getD, List.getD_eq_getElem?_getD]
  by_cases h : i < s.length
  · rw [List.getElem?_append_left h]
  · rw [List.getElem?_append_right (by omega), List.getElem?_eq_none (by omega : s.length ≤ i)]
    by_cases h2 : i - s.length < m
    · rw [List.getElem?_replicate, if_pos h2]; rfl
    · rw [List.getElem?_replicate, if_neg h2]
theorem pack_pad (s : List Bool) (m : Nat) (h : (s.length + m + 7) / 8 = (s.length + 7) / 8) : pack (s ++ List.replicate m false) = pack s := by
  unfold pack
  rw [List.length_append, List.length_replicate, h]
  apply List.map_congr_left
  intro j _
  unfold byteAt eight
  congr 1
  apply List.map_congr_left
  intro i _
  exact getD_pad s m _
theorem chunk_eight (s : List Bool) (j : Nat) (h : 8 * j + 8 ≤ s.length) : (s.drop (8 * j)).take 8 = eight fun i => s.getD (8 * j + i) false := by
  apply List.ext_getElem
  · simp [eight]; omega
  · intro i h1 h2
    have hi : i < 8 := by simpa [eight] using h2
    simp [eight, List.getElem_take, List.getElem_drop, List.getD_eq_getElem?_getD, List.getElem?_eq_getElem (show 8 * j + i < s.length by omega)]
end Go.Gh
