/-
  Rows of the call's own in which an element is put in, or written over.
-/
import Derived.Test.YtcljeedmiobepaaGen1
namespace Go.Gh
open Go.RowKit
set_option linter.unusedVariables false
section
variable {α : Type} {k : Nat} {P : List (α × List Value)}
theorem pc_ins (P : List (α × List Value)) (a : α) (c : List Value) (i : Nat) : pc (P.take i ++ (a, c) :: P.drop i) = pc (P.take i) ++ (c ++ pc (P.drop i)) := by
  rw [pc_append, pc_cons]
theorem PK.ins (h : PK k P) {a : α} {c : List Value} (hc : c.length = k) (i : Nat) : PK k (P.take i ++ (a, c) :: P.drop i) := by
  intro p hp
  rcases List.mem_append.1 hp with h' | h'
  · exact h p (List.mem_of_mem_take h')
  · rcases List.mem_cons.1 h' with h'' | h''
    · rw [h'']; exact hc
    · exact h p (List.mem_of_mem_drop h'')
theorem PK.set (h : PK k P) {a : α} {c : List Value} (hc : c.length = k) (i : Nat) : PK k (P.set i (a, c)) := by
  intro p hp
  rcases List.mem_or_eq_of_mem_set hp with h' | h'
  · exact h p h'
  · rw [h']; exact hc
theorem map_ins (P : List (α × List Value)) (a : α) (c : List Value) (i : Nat) : (P.take i ++ (a, c) :: P.drop i).map (·.1) = (P.map (·.1)).take i ++ a :: (P.map (·.1)).drop i := by
  rw [List.map_append, List.map_cons, List.map_take, List.map_drop]
theorem map_set (P : List (α × List Value)) (a : α) (c : List Value) (i : Nat) : (P.set i (a, c)).map (·.1) = (P.map (·.1)).set i a := by
  rw [List.map_set]
theorem all_ins {Q : α × List Value → Prop} (h : ∀ p ∈ P, Q p) {a : α} {c : List Value} (hc : Q (a, c)) (i : Nat) : ∀ p ∈ P.take i ++ (a, c) :: P.drop i, Q p := by
  intro p hp
  rcases List.mem_append.1 hp with h' | h'
  · exact h p (List.mem_of_mem_take h')
  · rcases List.mem_cons.1 h' with h'' | h''
    · rw [h'']; exact hc
    · exact h p (List.mem_of_mem_drop h'')
theorem all_set {Q : α × List Value → Prop} (h : ∀ p ∈ P, Q p) {a : α} {c : List Value} (hc : Q (a, c)) (i : Nat) : ∀ p ∈ P.set i (a, c), Q p := by
  intro p hp
  rcases List.mem_or_eq_of_mem_set hp with h' | h'
  · exact h p h'
  · rw [h']; exact hc
/-- An element is put in at a place of a row that is the call's own. -/
theorem own_insP {w' : World} {B : Nat} {e : TypeId} {p j g cap : Nat} {a : α} {c : List Value} (h : w'.ownsRow B e k (.slice (some ⟨g, 0, none⟩) (j + (1 + (p - j))) cap) (j + (1 + (p - j))) ((pc P).take (j * k) ++ (c ++ (pc P).drop (j * k)))) (hk : PK k P) (hp : P.length = p) (hj : j ≤ p) :
    w'.ownsRow B e k (.slice (some ⟨g, 0, none⟩) (p + 1) cap) (p + 1) (pc (P.take j ++ (a, c) :: P.drop j)) := by
  rw [pc_ins, ← pc_take hk j, ← pc_drop hk j (by omega)]
  rw [show j + (1 + (p - j)) = p + 1 by omega] at h
  exact h
theorem own_insP_end {w' : World} {B : Nat} {e : TypeId} {j g cap : Nat} {a : α} {c : List Value} (h : w'.ownsRow B e k (.slice (some ⟨g, 0, none⟩) (j + 1) cap) (j + 1) ((pc P).take (j * k) ++ (c ++ (pc P).drop (j * k)))) (hk : PK k P) (hp : P.length = j) :
    w'.ownsRow B e k (.slice (some ⟨g, 0, none⟩) (j + 1) cap) (j + 1) (pc (P.take j ++ (a, c) :: P.drop j)) := by
  rw [pc_ins, ← pc_take hk j, ← pc_drop hk j (by omega)]
  exact h
/-- The cells of an element of a row that is the call's own. -/
theorem own_el {w : World} {B : Nat} {e : TypeId} {g n cap i : Nat} {p : α × List Value} (h : w.ownsRow B e k (.slice (some ⟨g, 0, none⟩) n cap) n (pc P)) (hk : PK k P) (hp : P[i]? = some p) (hi : i < n) : (∀ j u, p.2[j]? = some u → w.cell? ⟨g, i * k + j, none⟩ = some u) ∧ ∀ j, w.frozen? ⟨g, i * k + j, none⟩ = false := by
  obtain ⟨g', cap', e1, _, _, _, _, hc⟩ := own_some h (by omega)
  simp at e1
  obtain ⟨rfl, rfl⟩ := e1
  refine ⟨fun j u hu => ?_, fun j => h.frozenAt _⟩
  have hj : j < k := by
    have h1 := (List.getElem?_eq_some_iff.1 hu).1
    have h2 : p.2.length = k := hk p (List.mem_of_getElem? hp)
    omega
  exact hc _ _ (by rw [pc_get hk hp hj]; exact hu)
/-- An element of a row that is the call's own is written over. -/
theorem own_over {w : World} {B : Nat} {e : TypeId} {g n cap i : Nat} {a : α} {c : List Value} (h : w.ownsRow B e k (.slice (some ⟨g, 0, none⟩) n cap) n (pc P)) (hk : PK k P) (hi : i < P.length) (hc : c.length = k) : (setCells w g (i * k) c).ownsRow B e k (.slice (some ⟨g, 0, none⟩) n cap) n (pc (P.set i (a, c))) := by
  have := own_stores c w (i * k) (pc P) h
  rwa [pc_set hk hi hc] at this
end
end Go.Gh
