/-
  Nodes: as plain functions.
-/
import Derived.Test.YtcljeedmiobepaaClLaw2
namespace Go.Gh
set_option linter.unusedVariables false
structure Nd where
  nm : ByteArray
  tk : List Int
instance : Inhabited Nd := ⟨⟨ByteArray.empty, []⟩⟩
instance : Inhabited Cl := ⟨⟨0, 0, ByteArray.empty, []⟩⟩
/-- The key of the one ahead; below all where there is none. -/
def pk (p : Option Nd) : Int := match p with | none => 0 | some q => keyS q.nm
open Classical in
noncomputable def goN : Option Nd → List Nd → Int
  | _, [] => 0
  | p, x :: L => if x.nm.size < 1 ∨ 20 < x.nm.size then 4 else if keyS x.nm ≤ pk p then 5 else if 20 < x.tk.length then 2 else if AscT x.tk then goN (some x) L else 5
noncomputable def nodesF (L : List Nd) : Int := if 20 < L.length then 2 else goN none L
theorem key_one {s : ByteArray} (h1 : ¬ s.size < 1) : 0 < keyS s := by
  unfold keyS
  have hl : s.data.toList.length = s.size := by simp
  match h : s.data.toList with
  | [] => rw [h] at hl; simp at hl; omega
  | b :: bs => exact keyL_pos 19 b bs
theorem key_empty : keyS ⟨#[]⟩ = 0 := rfl
theorem nodes_one (nm : ByteArray) (tk : List Int) : nodesF [⟨nm, tk⟩] = nodeF nm tk := by
  unfold nodesF nodeF
  rw [if_neg (by simp), goN, goN]
  by_cases h : nm.size < 1 ∨ 20 < nm.size
  · rw [if_pos h, if_pos h]
  · rw [if_neg h, if_neg h, if_neg]
    have := key_one (s := nm) (fun h' => h (Or.inl h'))
    unfold pk
    simp only
    omega
section
variable {p : Option Nd} {x : Nd} {L : List Nd}
theorem goN_size (h : x.nm.size < 1 ∨ 20 < x.nm.size) : goN p (x :: L) = 4 := by rw [goN, if_pos h]
theorem goN_order (h : ¬ (x.nm.size < 1 ∨ 20 < x.nm.size)) (h2 : keyS x.nm ≤ pk p) : goN p (x :: L) = 5 := by rw [goN, if_neg h, if_pos h2]
theorem goN_large (h : ¬ (x.nm.size < 1 ∨ 20 < x.nm.size)) (h2 : ¬ keyS x.nm ≤ pk p) (h3 : 20 < x.tk.length) : goN p (x :: L) = 2 := by rw [goN, if_neg h, if_neg h2, if_pos h3]
theorem goN_bad (h : ¬ (x.nm.size < 1 ∨ 20 < x.nm.size)) (h2 : ¬ keyS x.nm ≤ pk p) (h3 : ¬ 20 < x.tk.length) (h4 : ¬ AscT x.tk) : goN p (x :: L) = 5 := by rw [goN, if_neg h, if_neg h2, if_neg h3, if_neg h4]
theorem goN_on (h : ¬ (x.nm.size < 1 ∨ 20 < x.nm.size)) (h2 : ¬ keyS x.nm ≤ pk p) (h3 : ¬ 20 < x.tk.length) (h4 : AscT x.tk) : goN p (x :: L) = goN (some x) L := by rw [goN, if_neg h, if_neg h2, if_neg h3, if_pos h4]
end
theorem drop_at {α : Type} {L : List α} {k : Nat} {x : α} (h : L[k]? = some x) : L.drop k = x :: L.drop (k + 1) := by
  obtain ⟨h1, h2⟩ := List.getElem?_eq_some_iff.1 h
  rw [← h2, List.drop_eq_getElem_cons h1]
/-- What comparing names comes to. -/
theorem name_le {s t : ByteArray} (hs : s.size ≤ 20) (ht : t.size ≤ 20) : (Op.bytesLess s.toList t.toList || s.toList == t.toList) = decide (keyS s ≤ keyS t) := by
  rw [keyS_less hs ht, keyS_same hs ht]
  by_cases h : keyS s < keyS t
  · rw [decide_eq_true h, decide_eq_true (p := keyS s ≤ keyS t) (by omega)]; rfl
  · by_cases h2 : keyS s = keyS t
    · rw [decide_eq_true h2, decide_eq_true (p := keyS s ≤ keyS t) (by omega), Bool.or_true]
    · rw [decide_eq_false h, decide_eq_false h2, decide_eq_false (p := keyS s ≤ keyS t) (by omega)]; rfl
theorem name_ne {s : ByteArray} (h : ¬ s.size < 1) : s.toList.isEmpty = false ∧ ¬ s.toList = [] := by
  have h2 : ¬ s.toList = [] := by
    rw [ByteArray.toList_eq]
    intro h'
    have h3 : s.data.size = 0 := by rw [← Array.length_toList, h']; rfl
    have e : s.size = s.data.size := rfl
    omega
  exact ⟨by rw [List.isEmpty_eq_false_iff]; exact h2, h2⟩
theorem name_nil {s : ByteArray} (h : s.size < 1) : s = ⟨#[]⟩ := by
  have : s.data.size = 0 := by have e : s.size = s.data.size := rfl; omega
  cases s with
  | mk d => simp at this; rw [this]
theorem not_asc {tk : List Int} {j : Nat} (h : j + 1 < tk.length) (h2 : tk.getD (j + 1) 0 ≤ tk.getD j 0) : ¬ AscT tk := fun ha => by have := ha j h; omega
end Go.Gh
