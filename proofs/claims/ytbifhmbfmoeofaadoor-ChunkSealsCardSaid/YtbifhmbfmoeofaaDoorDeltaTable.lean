/-
  What the row's list gives: the table of widths holds its fifteen cells.
-/
import Derived.Test.YtbifhmbfmoeofaaDoorDelta2
import Derived.ProofKit
import Derived.OpenShut
import Derived.Lib.LaidTab
namespace Go.Proofs.YtbifhmbfmoeofaaDoor.Delta
open Go.ChangeShapes Go.WideShapes Go.ChangeAt Go.RowKit Go.Gh
set_option linter.unusedVariables false
theorem gTab : Tryd.prog.globalNamed "gaugehouse/delta.widths" = some 0 := by kernel_rfl
theorem gTabType : (Tryd.prog.globals[0]?).map (·.type) = some 78 := by kernel_rfl
theorem cellsTab : Tryd.prog.cellsOf 78 = 15 := by kernel_rfl
theorem cellsRow : Tryd.prog.cellsOf 77 = 3 := by kernel_rfl
theorem cellsU64 : Tryd.prog.cellsOf 63 = 1 := by kernel_rfl
theorem cellsInt : Tryd.prog.cellsOf 3 = 1 := by kernel_rfl
theorem width_cells {H : Type} {enc : TypeId × Value → H} {w : World} {base : Nat} {sp : Nat → Bool} {held : Bool} {fuel : Nat} {cs : List Value} {x : DataW H × List MemPlace} {a b c : Int}
    (h : DataW.trod enc Tryd.prog w base sp held fuel 77 cs = some x) (hx : x.1 = .agg [.lit (.int .u64 a), .lit (.int .i64 b), .lit (.int .i64 c)]) : cs = [.int .u64 a, .int .i64 b, .int .i64 c] := by
  obtain ⟨xs, n, _, rfl, hl, hlen, hf⟩ := DataW.trod_struct Tryd.underlying77 h
  rw [cellsRow] at hl
  match cs, hl with
  | [c0, c1, c2], _ =>
    match xs, hlen with
    | [y0, y1, y2], _ =>
      have f0 := hf 0 _ rfl
      have f1 := hf 1 _ rfl
      have f2 := hf 2 _ rfl
      obtain ⟨n0, e0, rfl, _⟩ := DataW.trod_int Tryd.underlying63 f0
      obtain ⟨n1, e1, rfl, _⟩ := DataW.trod_int Tryd.underlying3 f1
      obtain ⟨n2, e2, rfl, _⟩ := DataW.trod_int Tryd.underlying3 f2
      simp at hx e0 e1 e2
      obtain ⟨rfl, rfl, rfl⟩ := hx
      rw [cellsU64] at e0
      rw [cellsInt] at e1 e2
      simp at e0 e1 e2
      rw [e0, e1, e2]
theorem table_of_laid {W : World} {rest : List (String × DataW Unit)} (h : laidMet Tryd.prog (("gaugehouse/delta.widths", Rows.laid_gaugehouse_delta_widths) :: rest) W) : Table W := by
  obtain ⟨ps, ⟨g, t, cs, fuel, p, q, hg, ht, hvar, hd, _, _⟩, _⟩ := h
  obtain rfl := Option.some.inj (gTab.symm.trans hg)
  obtain rfl := Option.some.inj (gTabType.symm.trans ht)
  obtain ⟨xs, m, rfl, hx, hlen, hn, hel⟩ := DataW.trod_array Tryd.underlying78 hd
  obtain ⟨l⟩ := cs
  rw [cellsTab] at hlen
  rw [cellsRow] at hel
  simp only [Prod.mk.injEq] at hx
  have hx1 := hx.1
  simp only [Rows.laid_gaugehouse_delta_widths, DataW.agg.injEq] at hx1
  match xs, hn, hx1 with
  | [x0, x1, x2, x3, x4], _, hx1 =>
    simp only [List.map_cons, List.map_nil, List.cons.injEq, and_true] at hx1
    obtain ⟨e0, e1, e2, e3, e4⟩ := hx1
    have r0 := width_cells (hel 0 (by decide)) e0.symm
    have r1 := width_cells (hel 1 (by decide)) e1.symm
    have r2 := width_cells (hel 2 (by decide)) e2.symm
    have r3 := width_cells (hel 3 (by decide)) e3.symm
    have r4 := width_cells (hel 4 (by decide)) e4.symm
    match l, hlen, r0, r1, r2, r3, r4, hvar with
    | [c0, c1, c2, c3, c4, c5, c6, c7, c8, c9, c10, c11, c12, c13, c14], _, r0, r1, r2, r3, r4, hvar =>
      simp at r0 r1 r2 r3 r4
      obtain ⟨rfl, rfl, rfl⟩ := r0
      obtain ⟨rfl, rfl, rfl⟩ := r1
      obtain ⟨rfl, rfl, rfl⟩ := r2
      obtain ⟨rfl, rfl, rfl⟩ := r3
      obtain ⟨rfl, rfl, rfl⟩ := r4
      have c := fun i => World.var?_cell hg hvar i
      have h0 := c 0
      refine ⟨?_, ⟨c 0, c 1, c 2⟩, ⟨c 3, c 4, c 5⟩, ⟨c 6, c 7, c 8⟩, ⟨c 9, c 10, c 11⟩, c 12, c 13, c 14⟩
      simp only [World.cell?] at h0
      by_cases hh : 0 < W.heap.size
      · exact hh
      · have : W.heap[0]? = none := Array.getElem?_eq_none (by omega)
        rw [this] at h0
        simp at h0
end Go.Proofs.YtbifhmbfmoeofaaDoor.Delta
