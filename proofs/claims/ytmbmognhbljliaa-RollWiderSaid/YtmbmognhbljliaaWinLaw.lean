/-
  Are windows right? As a plain function.
-/
import Derived.Test.YtmbmognhbljliaaMergeLaw
namespace Go.Gh
set_option linter.unusedVariables false

def badW (r : List Int) : Prop := rg r 1 < 1 ∨ 1000000000 < rg r 1 ∨ rg r 5 < rg r 3 ∨ rg r 6 < rg r 3 ∨ rg r 4 < rg r 3 ∨ rg r 4 < rg r 5 ∨ rg r 4 < rg r 6
instance (r : List Int) : Decidable (badW r) := inferInstanceAs (Decidable (_ ∨ _))
def lateW : Option Int → Int → Prop
  | none, _ => False
  | some p, t => t ≤ p
instance (p : Option Int) (t : Int) : Decidable (lateW p t) := by cases p <;> unfold lateW <;> infer_instance
def scanW : Option Int → List (List Int) → Int
  | _, [] => 0
  | p, x :: l => if badW x then 4 else if lateW p (rg x 0) then 5 else scanW (some (rg x 0)) l
def winF (l : List (List Int)) : Int := if 1000 < l.length then 2 else scanW none l
def prevT (l : List (List Int)) (k : Nat) : Option Int := if k = 0 then none else some (rg (l.getD (k - 1) []) 0)
theorem scan_bad {l : List (List Int)} {k : Nat} {p : Option Int} (hk : k < l.length) (h : badW (l.getD k [])) : scanW p (l.drop k) = 4 := by
  rw [drop_getD hk, scanW, if_pos h]
theorem scan_late {l : List (List Int)} {k : Nat} (hk : k + 1 < l.length) (hb : ¬ badW (l.getD (k + 1) [])) (h : rg (l.getD (k + 1) []) 0 ≤ rg (l.getD k []) 0) : scanW (prevT l (k + 1)) (l.drop (k + 1)) = 5 := by
  rw [drop_getD hk, scanW, if_neg hb, if_pos]
  unfold prevT
  rw [if_neg (by omega), Nat.add_sub_cancel]
  exact h
theorem scan_first {l : List (List Int)} (hk : 0 < l.length) (hb : ¬ badW (l.getD 0 [])) : scanW (prevT l 0) (l.drop 0) = scanW (prevT l 1) (l.drop 1) := by
  rw [drop_getD hk, scanW, if_neg hb, if_neg]
  · rfl
  · exact fun h => h
theorem scan_next {l : List (List Int)} {k : Nat} (hk : k + 1 < l.length) (hb : ¬ badW (l.getD (k + 1) [])) (h : ¬ rg (l.getD (k + 1) []) 0 ≤ rg (l.getD k []) 0) : scanW (prevT l (k + 1)) (l.drop (k + 1)) = scanW (prevT l (k + 1 + 1)) (l.drop (k + 1 + 1)) := by
  rw [drop_getD hk, scanW, if_neg hb, if_neg]
  · rfl
  · unfold prevT
    rw [if_neg (by omega), Nat.add_sub_cancel]
    exact h
theorem scan_end {l : List (List Int)} {k : Nat} {p : Option Int} (hk : l.length ≤ k) : scanW p (l.drop k) = 0 := by
  rw [List.drop_of_length_le hk]; cases p <;> rfl
theorem scan_asc (l : List (List Int)) : ∀ p, scanW p l = 0 → Asc l ∧ ∀ t, p = some t → ∀ x ∈ l, t < rg x 0 := by
  induction l with
  | nil => intro p _; exact ⟨List.Pairwise.nil, by intro t _ x hx; cases hx⟩
  | cons x l ih =>
    intro p h
    rw [scanW] at h
    split at h
    · simp at h
    · split at h
      · simp at h
      · rename_i hl
        obtain ⟨h1, h2⟩ := ih _ h
        refine ⟨List.pairwise_cons.2 ⟨fun y hy => h2 _ rfl y hy, h1⟩, fun t ht y hy => ?_⟩
        have hx : t < rg x 0 := by
          rw [ht] at hl
          unfold lateW at hl
          omega
        rcases List.mem_cons.1 hy with h' | h'
        · rw [h']; exact hx
        · have := h2 _ rfl y h'; omega
theorem win_asc {l : List (List Int)} (h : winF l = 0) : Asc l ∧ l.length ≤ 1000 := by
  unfold winF at h
  split at h
  · simp at h
  · exact ⟨(scan_asc l none h).1, by omega⟩
end Go.Gh
