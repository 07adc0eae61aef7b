/-
  Words shared by the walks, part three: rows of structs that are written over.
-/
import Derived.Test.YtcljeedmiobepaaSamples
namespace Go.Gh
open Go.RowKit
set_option linter.unusedVariables false

def setCells (w : World) (g k : Nat) : List Value → World
  | [] => w
  | u :: us => setCells (w.setCell ⟨g, k, none⟩ u) g (k + 1) us
def setFrom (xs : List Value) (k : Nat) : List Value → List Value
  | [] => xs
  | u :: us => setFrom (xs.set k u) (k + 1) us
theorem own_stores {B g n cap size : Nat} {e : TypeId} : ∀ (us : List Value) (w : World) (k : Nat) (xs : List Value), w.ownsRow B e size (.slice (some ⟨g, 0, none⟩) n cap) n xs →
    (setCells w g k us).ownsRow B e size (.slice (some ⟨g, 0, none⟩) n cap) n (setFrom xs k us)
  | [], w, k, xs, h => h
  | u :: us, w, k, xs, h => own_stores us _ (k + 1) _ (h.stored k u).1
theorem below_stores {B g : Nat} {w0 : World} (hg : B ≤ g) : ∀ (us : List Value) (w : World) (k : Nat), Below B w0 w → Below B w0 (setCells w g k us)
  | [], w, k, h => h
  | u :: us, w, k, h => below_stores hg us _ (k + 1) (h.setCell (p := ⟨g, k, none⟩) hg u)
theorem row_stores {b : Nat} {e : TypeId} : ∀ (us : List Value) (w : World) (k : Nat) (cs : List Value), w.heap[b]? = some (.cells cs.toArray e (0, 0)) → (setCells w b k us).heap[b]? = some (.cells (setFrom cs k us).toArray e (0, 0))
  | [], w, k, cs, h => h
  | u :: us, w, k, cs, h => by
    have := row_setCell k u h
    rw [List.setIfInBounds_toArray] at this
    exact row_stores us _ (k + 1) (cs.set k u) this
theorem own_stores_other {B n b size : Nat} {e : TypeId} {v : Value} {xs : List Value} (hne : v.ownBlock ≠ some b) : ∀ (us : List Value) (w : World) (k : Nat), w.ownsRow B e size v n xs → (setCells w b k us).ownsRow B e size v n xs
  | [], w, k, h => h
  | u :: us, w, k, h => own_stores_other hne us _ (k + 1) (ownsRow_setCell_other h (a := ⟨b, k, none⟩) hne u)
theorem block_stores_other {b b' : Nat} {o : Obj} (hne : b' ≠ b) : ∀ (us : List Value) (w : World) (k : Nat), w.heap[b']? = some o → (setCells w b k us).heap[b']? = some o
  | [], w, k, h => h
  | u :: us, w, k, h => block_stores_other hne us _ (k + 1) (row_setCell_other u h hne)
theorem setFrom_mid : ∀ (us mid pre post : List Value), mid.length = us.length → setFrom (pre ++ mid ++ post) pre.length us = pre ++ us ++ post
  | [], mid, pre, post, h => by
    have : mid = [] := List.length_eq_zero_iff.1 h
    subst this; rfl
  | u :: us, mid, pre, post, h => by
    match mid, h with
    | m :: mid, h =>
      have e : (pre ++ m :: mid ++ post).set pre.length u = (pre ++ [u]) ++ mid ++ post := by
        rw [List.append_assoc, List.set_append_right _ _ (Nat.le_refl _)]
        simp
      have := setFrom_mid us mid (pre ++ [u]) post (by simpa using h)
      rw [setFrom, e]
      rw [List.length_append, List.length_singleton] at this
      rw [this]
      simp
theorem setFrom_all (us cs : List Value) (h : cs.length = us.length) : setFrom cs 0 us = us := by
  have := setFrom_mid us cs [] [] h
  simpa using this
def RowsK (k : Nat) (l : List (List Int)) : Prop := ∀ r ∈ l, r.length = k
theorem Rows64.k {k : Nat} {l : List (List Int)} (h : Rows64 k l) : RowsK k l := fun r hr => (h r hr).1
theorem rowCells_append (a b : List (List Int)) : rowCells (a ++ b) = rowCells a ++ rowCells b := by
  unfold rowCells; rw [List.flatMap_append]
theorem rowCells_one (r : List Int) : rowCells [r] = r.map (Value.int .i64) := by
  unfold rowCells; simp
/-- A row is written over. -/
theorem setFrom_row {k : Nat} (l : List (List Int)) (h : RowsK k l) (i : Nat) (hi : i < l.length) (r : List Int) (hr : r.length = k) : setFrom (rowCells l) (i * k) (r.map (Value.int .i64)) = rowCells (l.set i r) := by
  have e1 : l = l.take i ++ [l[i]] ++ l.drop (i + 1) := by
    rw [List.append_assoc, List.singleton_append, ← List.drop_eq_getElem_cons hi, List.take_append_drop]
  have e2 : l.set i r = l.take i ++ [r] ++ l.drop (i + 1) := by
    rw [List.set_eq_take_append_cons_drop, if_pos hi, List.append_assoc, List.singleton_append]
  rw [e2]
  conv => lhs; rw [e1]
  rw [rowCells_append, rowCells_append, rowCells_append, rowCells_append, rowCells_one, rowCells_one]
  have hl : (rowCells (l.take i)).length = i * k := by
    rw [rowCells_len k _ (fun r hr => h r (List.mem_of_mem_take hr)), List.length_take, Nat.min_eq_left (by omega)]
  rw [← hl]
  exact setFrom_mid _ _ _ _ (by simp [hr, h l[i] (List.getElem_mem _)])
/-- An element: where it lies, and its fields' cells (lengths alone asked). -/
theorem Sl.rowk {w : World} {ao : Option Addr} {n c k : Nat} {l : List (List Int)} (h : Sl w k (.slice ao n c) n (rowCells l)) (hl : l.length = n) (hr : RowsK k l) {i : Nat} (hi : i < n) :
    ∃ b off, ao = some ⟨b, off, none⟩ ∧ (l.getD i []).length = k ∧ ∀ j, j < k → w.cell? ⟨b, off + i * k + j, none⟩ = some (.int .i64 ((l.getD i []).getD j 0)) := by
  obtain ⟨ao', cap, h1, h2, h3, h4, h5, h6⟩ := h
  simp at h1
  obtain ⟨rfl, rfl⟩ := h1
  obtain ⟨b, off, rfl, hc⟩ := h6 (by omega)
  have hil : i < l.length := by omega
  have hg : l.getD i [] = l[i] := by rw [List.getD_eq_getElem?_getD, List.getElem?_eq_getElem hil]; rfl
  rw [hg]
  have hri := hr l[i] (List.getElem_mem _)
  refine ⟨b, off, rfl, hri, fun j hj => ?_⟩
  have := rowCells_get k l hr i j hil hj
  rw [Nat.add_assoc]
  refine hc _ _ ?_
  rw [this]
  have hj' : j < l[i].length := by rw [hri]; exact hj
  simp [hj']
theorem own_shape {w : World} {B : Nat} {e : TypeId} {size n : Nat} {v : Value} {xs : List Value} (h : w.ownsRow B e size v n xs) : ∃ ao c, v = .slice ao n c ∧ n ≤ c ∧ c ≤ 9223372036854775807 ∧ xs.length = n * size := (own_sl h).shape
/-- The rows that an owned row holds, cell by cell. -/
theorem own_row {w : World} {B : Nat} {e : TypeId} {g n cap k : Nat} {l : List (List Int)} (h : w.ownsRow B e k (.slice (some ⟨g, 0, none⟩) n cap) n (rowCells l)) (hr : RowsK k l) (hl : l.length = n) {i j : Nat} (hi : i < n) (hj : j < k) :
    w.cell? ⟨g, i * k + j, none⟩ = some (.int .i64 ((l.getD i []).getD j 0)) ∧ w.frozen? ⟨g, i * k + j, none⟩ = false := by
  refine ⟨?_, h.frozenAt _⟩
  have hlt : i * k + j < n * k := by
    have : (i + 1) * k ≤ n * k := Nat.mul_le_mul_right _ hi
    rw [Nat.succ_mul] at this
    omega
  rw [h.cellAt _ hlt]
  have := rowCells_get k l hr i j (by omega) hj
  rw [this]
  have hil : i < l.length := by omega
  have hri := hr l[i] (List.getElem_mem _)
  have hj' : j < l[i].length := by rw [hri]; exact hj
  have hg : l.getD i [] = l[i] := by rw [List.getD_eq_getElem?_getD, List.getElem?_eq_getElem hil]; rfl
  rw [hg]
  simp [hj']
end Go.Gh
