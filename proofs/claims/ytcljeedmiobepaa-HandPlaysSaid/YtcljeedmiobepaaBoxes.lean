/-
  Blocks of the call's own that hold a struct.
-/
import Derived.Test.YtcljeedmiobepaaLib3
namespace Go.Gh
open Go.RowKit
set_option linter.unusedVariables false
theorem box_over {w : World} {b : Nat} {T : TypeId} {cs us : List Value} (h : w.heap[b]? = some (.cells cs.toArray T (0, 0))) (hl : cs.length = us.length) : (setCells w b 0 us).heap[b]? = some (.cells us.toArray T (0, 0)) := by
  have := row_stores us w 0 cs h
  rwa [setFrom_all _ _ hl] at this
section
variable {w : World} {B : Nat} {T : TypeId} {a b c d e f : Value}
theorem bx2 (h : w.heap[B]? = some (.cells #[a, b] T (0, 0))) : (w.cell? ⟨B, 0, none⟩ = some a ∧ w.cell? ⟨B, 1, none⟩ = some b) ∧ (w.frozen? ⟨B, 0, none⟩ = false ∧ w.frozen? ⟨B, 1, none⟩ = false) :=
  ⟨⟨(row_cell 0 _ h rfl).1, (row_cell 1 _ h rfl).1⟩, ⟨(row_cell 0 a h rfl).2, (row_cell 1 b h rfl).2⟩⟩
theorem bx3 (h : w.heap[B]? = some (.cells #[a, b, c] T (0, 0))) : (w.cell? ⟨B, 0, none⟩ = some a ∧ w.cell? ⟨B, 1, none⟩ = some b ∧ w.cell? ⟨B, 2, none⟩ = some c) ∧ (w.frozen? ⟨B, 0, none⟩ = false ∧ w.frozen? ⟨B, 1, none⟩ = false ∧ w.frozen? ⟨B, 2, none⟩ = false) :=
  ⟨⟨(row_cell 0 _ h rfl).1, (row_cell 1 _ h rfl).1, (row_cell 2 _ h rfl).1⟩, ⟨(row_cell 0 a h rfl).2, (row_cell 1 b h rfl).2, (row_cell 2 c h rfl).2⟩⟩
theorem bx4 (h : w.heap[B]? = some (.cells #[a, b, c, d] T (0, 0))) : (w.cell? ⟨B, 0, none⟩ = some a ∧ w.cell? ⟨B, 1, none⟩ = some b ∧ w.cell? ⟨B, 2, none⟩ = some c ∧ w.cell? ⟨B, 3, none⟩ = some d) ∧
    (w.frozen? ⟨B, 0, none⟩ = false ∧ w.frozen? ⟨B, 1, none⟩ = false ∧ w.frozen? ⟨B, 2, none⟩ = false ∧ w.frozen? ⟨B, 3, none⟩ = false) :=
  ⟨⟨(row_cell 0 _ h rfl).1, (row_cell 1 _ h rfl).1, (row_cell 2 _ h rfl).1, (row_cell 3 _ h rfl).1⟩, ⟨(row_cell 0 a h rfl).2, (row_cell 1 b h rfl).2, (row_cell 2 c h rfl).2, (row_cell 3 d h rfl).2⟩⟩
theorem bx6 (h : w.heap[B]? = some (.cells #[a, b, c, d, e, f] T (0, 0))) : (w.cell? ⟨B, 0, none⟩ = some a ∧ w.cell? ⟨B, 1, none⟩ = some b ∧ w.cell? ⟨B, 2, none⟩ = some c ∧ w.cell? ⟨B, 3, none⟩ = some d ∧ w.cell? ⟨B, 4, none⟩ = some e ∧ w.cell? ⟨B, 5, none⟩ = some f) ∧
    (w.frozen? ⟨B, 0, none⟩ = false ∧ w.frozen? ⟨B, 1, none⟩ = false ∧ w.frozen? ⟨B, 2, none⟩ = false ∧ w.frozen? ⟨B, 3, none⟩ = false ∧ w.frozen? ⟨B, 4, none⟩ = false ∧ w.frozen? ⟨B, 5, none⟩ = false) :=
  ⟨⟨(row_cell 0 _ h rfl).1, (row_cell 1 _ h rfl).1, (row_cell 2 _ h rfl).1, (row_cell 3 _ h rfl).1, (row_cell 4 _ h rfl).1, (row_cell 5 _ h rfl).1⟩, ⟨(row_cell 0 a h rfl).2, (row_cell 1 b h rfl).2, (row_cell 2 c h rfl).2, (row_cell 3 d h rfl).2, (row_cell 4 e h rfl).2, (row_cell 5 f h rfl).2⟩⟩
end
end Go.Gh
