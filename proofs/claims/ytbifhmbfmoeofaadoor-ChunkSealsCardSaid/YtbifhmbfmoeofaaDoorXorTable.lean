/-
  What the row's list gives: the table of math/bits holds its sixty-four cells.
-/
import Derived.Test.YtbifhmbfmoeofaaDoorXor2
import Derived.ProofKit
import Derived.OpenShut
import Derived.Lib.LaidTab
namespace Go.Proofs.YtbifhmbfmoeofaaDoor.Xor
open Go.ChangeShapes Go.WideShapes Go.ChangeAt Go.RowKit Go.Gh
set_option linter.unusedVariables false
theorem gTab : Tryd.prog.globalNamed "math/bits.deBruijn64tab" = some 1 := by kernel_rfl
theorem gTabType : (Tryd.prog.globals[1]?).map (·.type) = some 100 := by kernel_rfl
theorem cellsTab : Tryd.prog.cellsOf 100 = 64 := by kernel_rfl
theorem cellsU8 : Tryd.prog.cellsOf 5 = 1 := by kernel_rfl
def tabZ : List Int := Lib.deBruijn64tab.map fun (n : Nat) => (n : Int)
theorem laidMet_tail {P : Program} {W : World} {x : String × DataW Unit} {rest : List (String × DataW Unit)} (h : laidMet P (x :: rest) W) : laidMet P rest W := by
  obtain ⟨ps, ⟨g, t, cs, fuel, p, q, _, _, _, _, hr, rfl⟩, hn, hc⟩ := h
  exact ⟨q, hr, (List.nodup_append.1 hn).2.1, fun b off hb => hc b off (List.mem_append_right _ hb)⟩
theorem table_of_laid {W : World} {rest : List (String × DataW Unit)} (h : laidMet Tryd.prog (("math/bits.deBruijn64tab", Rows.laid_math_bits_deBruijn64tab) :: rest) W) : TabX W ∧ 2 ≤ W.heap.size := by
  have ht : Lib.TabIs Tryd.prog W "math/bits.deBruijn64tab" .u8 tabZ := Lib.tabIs_of_head (rest := rest) gTab gTabType Tryd.underlying100 Tryd.underlying5 cellsU8 cellsTab h
  have hx : TabX W := by
    intro j hj
    have := ht.cell gTab j (by unfold tabZ; rw [List.length_map]; exact hj)
    rw [this]
    congr 2
    unfold tabZ
    rw [List.getD_eq_getElem?_getD, List.getElem?_map, List.getD_eq_getElem?_getD]
    have hl : j < Lib.deBruijn64tab.length := hj
    rw [List.getElem?_eq_getElem hl]
    rfl
  refine ⟨hx, ?_⟩
  have h0 := hx 0 (by decide)
  simp only [World.cell?] at h0
  by_cases hh : 1 < W.heap.size
  · exact hh
  · have : W.heap[1]? = none := Array.getElem?_eq_none (by omega)
    rw [this] at h0
    simp at h0
end Go.Proofs.YtbifhmbfmoeofaaDoor.Xor
