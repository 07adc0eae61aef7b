/-
  Claims that are merged, both ways: as plain functions.
-/
import Derived.Test.YtcljeedmiobepaaClLaw2
namespace Go.Gh
open Go.RowKit
set_option linter.unusedVariables false
theorem merge_some (both : List Int → List Int → List Int) : ∀ (n : Nat) (a b : List (List Int)), a.length + b.length ≤ n → ∃ m, mergeF both bigC a b = some m
  | _, [], b, _ => ⟨b, by rw [mergeF]⟩
  | _, x :: a, [], _ => ⟨x :: a, by rw [mergeF]⟩
  | 0, x :: a, y :: b, h => by simp at h
  | n + 1, x :: a, y :: b, h => by
    simp only [List.length_cons] at h
    rcases (show rg x 0 < rg y 0 ∨ rg x 0 = rg y 0 ∨ rg y 0 < rg x 0 by omega) with h1 | h1 | h1
    · obtain ⟨m, hm⟩ := merge_some both n a (y :: b) (by simp only [List.length_cons]; omega)
      exact ⟨x :: m, by rw [merge_lt h1, hm]; rfl⟩
    · obtain ⟨m, hm⟩ := merge_some both n a b (by omega)
      exact ⟨both x y :: m, by rw [merge_eq h1 rfl, hm]; rfl⟩
    · obtain ⟨m, hm⟩ := merge_some both n (x :: a) b (by simp only [List.length_cons]; omega)
      exact ⟨y :: m, by rw [merge_gt h1, hm]; rfl⟩
/-- Both ways of merging give the same rows. -/
theorem merge_bes (E : Nat → Cl) {a b : List (List Int)} (ha : Asc a) (hb : Asc b) : ∃ m, mergeF (bothC E) bigC a b = some m ∧ (besF (bothC E) bigC a false b).1 = m := by
  obtain ⟨m, hm⟩ := merge_some (bothC E) (a.length + b.length) a b (Nat.le_refl _)
  refine ⟨m, hm, ?_⟩
  obtain ⟨_, h2⟩ := bes_merge (big := bigC) (bothC_key E) (a.length + b.length) a b (Nat.le_refl _) ha hb false
  rw [h2 m hm]
/-- One row of tokens stands behind another one in the order of rows. -/
def gtT : List Int → List Int → Bool
  | [], _ => false
  | _ :: _, [] => true
  | a :: x, b :: y => if a ≠ b then decide (b < a) else gtT x y
theorem gtT_eq : ∀ x y : List Int, gtT x y = decide (0 < cmpT x y)
  | [], [] => rfl
  | [], _ :: _ => rfl
  | _ :: _, [] => rfl
  | a :: x, b :: y => by
    rw [gtT, cmpT]
    rcases (show a < b ∨ a = b ∨ b < a by omega) with h | h | h
    · rw [if_pos (by omega), if_pos h, decide_eq_false (by omega)]
      rfl
    · subst h
      rw [if_neg (by omega), if_neg (by omega), if_neg (by omega)]
      exact gtT_eq x y
    · rw [if_pos (by omega), if_neg (by omega), if_pos h, decide_eq_true h]
      rfl
theorem newer_eq (a b : Cl) : newerC a b = if a.ver ≠ b.ver then decide (b.ver < a.ver) else if a.st ≠ b.st then decide (b.st < a.st) else gtT a.tk b.tk := by
  unfold newerC cmpC cmpI
  rcases (show a.ver < b.ver ∨ a.ver = b.ver ∨ b.ver < a.ver by omega) with h | h | h
  · rw [if_pos (show a.ver ≠ b.ver by omega)]
    simp only [h, if_true]
    rw [decide_eq_false (show ¬ b.ver < a.ver by omega)]
    rfl
  · rw [if_neg (show ¬ a.ver ≠ b.ver by omega)]
    rw [if_neg (show ¬ a.ver < b.ver by omega), if_neg (show ¬ b.ver < a.ver by omega)]
    simp only [ne_eq, not_true_eq_false, if_false]
    rcases (show a.st < b.st ∨ a.st = b.st ∨ b.st < a.st by omega) with h2 | h2 | h2
    · rw [if_pos (show ¬ a.st = b.st by omega)]
      simp only [h2, if_true]
      rw [decide_eq_false (show ¬ b.st < a.st by omega)]
      rfl
    · rw [if_neg (show ¬ ¬ a.st = b.st by omega)]
      rw [if_neg (show ¬ a.st < b.st by omega), if_neg (show ¬ b.st < a.st by omega)]
      simp only [not_true_eq_false, if_false]
      exact (gtT_eq _ _).symm
    · rw [if_pos (show ¬ a.st = b.st by omega)]
      rw [if_neg (show ¬ a.st < b.st by omega), if_pos h2, decide_eq_true h2]
      rfl
  · rw [if_pos (show a.ver ≠ b.ver by omega)]
    rw [if_neg (show ¬ a.ver < b.ver by omega), if_pos h, decide_eq_true h]
    rfl
end Go.Gh
