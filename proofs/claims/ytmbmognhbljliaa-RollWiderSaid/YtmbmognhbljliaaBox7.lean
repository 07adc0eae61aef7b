/-
  A block that holds a window.
-/
import Derived.Test.YtmbmognhbljliaaRoll2
import Derived.Test.YtmbmognhbljliaaLib3
namespace Go.Proofs.Ytmbmognhbljliaa.Roll
open Go.RowKit Go.Gh Go.Proofs.Ytmbmognhbljliaa.Smp
set_option linter.unusedVariables false
def winA (r : List Int) : Array Value := (r.map (Value.int .i64)).toArray
theorem box_cells {wx : World} {bx : Nat} {o0 o1 o2 o3 o4 o5 o6 : Int} (h : wx.heap[bx]? = some (.cells (winA [o0, o1, o2, o3, o4, o5, o6]) 92 (0, 0))) :
    (wx.cell? ⟨bx, 0, none⟩ = some (.int .i64 o0) ∧ wx.cell? ⟨bx, 1, none⟩ = some (.int .i64 o1) ∧ wx.cell? ⟨bx, 2, none⟩ = some (.int .i64 o2) ∧ wx.cell? ⟨bx, 3, none⟩ = some (.int .i64 o3) ∧ wx.cell? ⟨bx, 4, none⟩ = some (.int .i64 o4) ∧ wx.cell? ⟨bx, 5, none⟩ = some (.int .i64 o5) ∧ wx.cell? ⟨bx, 6, none⟩ = some (.int .i64 o6)) ∧
    (wx.frozen? ⟨bx, 0, none⟩ = false ∧ wx.frozen? ⟨bx, 1, none⟩ = false ∧ wx.frozen? ⟨bx, 2, none⟩ = false ∧ wx.frozen? ⟨bx, 3, none⟩ = false ∧ wx.frozen? ⟨bx, 4, none⟩ = false ∧ wx.frozen? ⟨bx, 5, none⟩ = false ∧ wx.frozen? ⟨bx, 6, none⟩ = false) :=
  ⟨⟨(row_cell 0 _ h rfl).1, (row_cell 1 _ h rfl).1, (row_cell 2 _ h rfl).1, (row_cell 3 _ h rfl).1, (row_cell 4 _ h rfl).1, (row_cell 5 _ h rfl).1, (row_cell 6 _ h rfl).1⟩, ⟨(row_cell 0 (.int .i64 o0) h rfl).2, (row_cell 1 (.int .i64 o1) h rfl).2, (row_cell 2 (.int .i64 o2) h rfl).2, (row_cell 3 (.int .i64 o3) h rfl).2, (row_cell 4 (.int .i64 o4) h rfl).2, (row_cell 5 (.int .i64 o5) h rfl).2, (row_cell 6 (.int .i64 o6) h rfl).2⟩⟩
def BoxRel (B bx p : Nat) (acc : List (List Int)) (one : List Int) (w : World) (u : Value) (wx : World) : Prop := wx.ownsRow B 92 7 u p (rowCells acc) ∧ wx.heap[bx]? = some (.cells (winA one) 92 (0, 0)) ∧ Below B w wx
theorem box_chain {B bx p : Nat} {acc : List (List Int)} {u : Value} {w w2 : World} {b0 b1 b2 b3 b4 b5 b6 n0 n1 n2 n3 n4 n5 n6 : Int} (hown : w2.ownsRow B 92 7 u p (rowCells acc)) (hne : u.ownBlock ≠ some bx) (hbox : w2.heap[bx]? = some (.cells (winA [b0, b1, b2, b3, b4, b5, b6]) 92 (0, 0))) (hb : Below B w w2) (hB : B ≤ bx) :
    BoxRel B bx p acc [n0, n1, n2, n3, n4, n5, n6] w u (((((((w2.setCell ⟨bx, 0, none⟩ (.int .i64 n0)).setCell ⟨bx, 1, none⟩ (.int .i64 n1)).setCell ⟨bx, 2, none⟩ (.int .i64 n2)).setCell ⟨bx, 3, none⟩ (.int .i64 n3)).setCell ⟨bx, 4, none⟩ (.int .i64 n4)).setCell ⟨bx, 5, none⟩ (.int .i64 n5)).setCell ⟨bx, 6, none⟩ (.int .i64 n6)) := by
  have h1 := own_stores_other hne ([n0, n1, n2, n3, n4, n5, n6].map (Value.int .i64)) w2 0 hown
  have h2 := row_stores ([n0, n1, n2, n3, n4, n5, n6].map (Value.int .i64)) w2 0 ([b0, b1, b2, b3, b4, b5, b6].map (Value.int .i64)) hbox
  have h3 := below_stores hB ([n0, n1, n2, n3, n4, n5, n6].map (Value.int .i64)) w2 0 hb
  rw [setFrom_all _ _ (by simp)] at h2
  have h : BoxRel B bx p acc [n0, n1, n2, n3, n4, n5, n6] w u (setCells w2 bx 0 ([n0, n1, n2, n3, n4, n5, n6].map (Value.int .i64))) := ⟨h1, h2, h3⟩
  simp only [List.map_cons, List.map_nil, setCells, Nat.reduceAdd, Nat.zero_add] at h
  exact h
end Go.Proofs.Ytmbmognhbljliaa.Roll
