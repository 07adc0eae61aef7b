/-
  Counts: how they read.
-/
import Derived.Test.YtcljeedmiobepaaGen1
import Derived.Test.YtcljeedmiobepaaRows
namespace Go.Proofs.Ytcljeedmiobepaa.Hv
open Go.RowKit Go.Gh Go.WideShapes Go.ChangeShapes Go.ChangeAt Go.Deep
set_option linter.unusedVariables false
theorem infoCt : (Try.prog.info? 175).map (fun i => (i.zero, i.size, i.bytes)) = some (some (.agg #[.string ByteArray.empty, .int .i64 0]), 2, 24) := by kernel_rfl
theorem elCt : Elem Try.prog 84 175 2 24 := elem_of Try.underlying84 infoCt rfl (by decide)
end Go.Proofs.Ytcljeedmiobepaa.Hv
