/-
  Slices of samples: their elements; how samples that are right read.
-/
import Derived.Test.YtbifhmbfmoeofaaDoorSmp
import Derived.Test.YtbifhmbfmoeofaaDoorLib5
import Derived.Test.YtbifhmbfmoeofaaDoorBesLaw
namespace Go.Proofs.YtbifhmbfmoeofaaDoor.Sam
open Go.RowKit Go.Gh
set_option linter.unusedVariables false
theorem infoSmp : (Tryd.prog.info? 65).map (fun i => (i.zero, i.size, i.bytes)) = some (some (.agg #[.int .i64 0, .int .i64 0]), 2, 16) := by kernel_rfl
theorem elSmp : Elem Tryd.prog 22 65 2 16 := elem_of Tryd.underlying22 infoSmp rfl (by decide)
theorem ints_one (l : List Int) : ∀ u ∈ l.map (Value.int .i64), u.oneCell' = true := by
  intro u hu; simp at hu; obtain ⟨z, _, rfl⟩ := hu; rfl
theorem rows_one (l : List (List Int)) : ∀ u ∈ rowCells l, u.oneCell' = true := by
  intro u hu
  unfold rowCells at hu
  obtain ⟨r, _, hr⟩ := List.mem_flatMap.1 hu
  exact ints_one r u hr
theorem row2 (r : List Int) (h : r.length = 2) : ∃ x0 x1 : Int, r = [x0, x1] := by
  match r, h with
  | [x0, x1], _ => exact ⟨x0, x1, rfl⟩
theorem fault_small {l : List (List Int)} (h : Smp.sampF l = 0) : l.length ≤ 1000 := by
  unfold Smp.sampF at h
  split at h
  · simp at h
  · omega
theorem fault_asc {l : List (List Int)} (h : Smp.sampF l = 0) : Asc l := by
  unfold Smp.sampF at h
  split at h
  · simp at h
  · split at h
    · rename_i ho; exact asc_of fun i hi => ho i hi
    · simp at h
theorem betF_rows {k : Nat} {l : List (List Int)} (h : RowsK k l) (fr till : Int) : RowsK k (betF fr till l) := fun r hr => h r (List.mem_filter.1 hr).1
end Go.Proofs.YtbifhmbfmoeofaaDoor.Sam
