/-
  Slices of bytes: their elements.
-/
import Derived.Test.YtbifhmbfmoeofaaDoorRows
import Derived.Test.YtbifhmbfmoeofaaDoorLib
import Derived.Test.YtbifhmbfmoeofaaDoorBitsLaw
import Derived.OwnWalk
import Derived.Outline
namespace Go.Proofs.YtbifhmbfmoeofaaDoor.Bits
open Go.RowKit Go.Gh Go.WideShapes
set_option linter.unusedVariables false

theorem infoU8 : (Tryd.prog.info? 5).map (fun i => (i.zero, i.size, i.bytes)) = some (some (.int .u8 0), 1, 1) := by kernel_rfl

theorem elU8 : Elem Tryd.prog 23 5 1 1 := elem_of Tryd.underlying23 infoU8 rfl (by decide)
theorem ints_one (k : IntKind) (l : List Int) : ∀ u ∈ l.map (Value.int k), u.oneCell' = true := by
  intro u hu; simp at hu; obtain ⟨z, _, rfl⟩ := hu; rfl
end Go.Proofs.YtbifhmbfmoeofaaDoor.Bits
