/-
  A list of numbers that came in, under the bound on the bulk.
-/
import Derived.Test.YtcljeedmiobepaaIndexSets
import Derived.Test.YtcljeedmiobepaaUpto
namespace Go.Proofs.Ytcljeedmiobepaa.Ix
open Go.RowKit Go.ChangeShapes Go.WideShapes Go.ChangeAt Go.Joins Go.Deep Go.Gh Go.Proofs.Ytcljeedmiobepaa.Rk
set_option linter.unusedVariables false
set_option maxRecDepth 100000 in
theorem isNsB_of {H : Type} {enc : TypeId × Value → H} {W : World} {base b0 : Nat} {r : Reach} {spare : Nat → Bool} {held : Bool} {v : Value} {d : DataW H} {ps : List MemPlace} (hv : Value.okWide Try.prog W r b0 130 v) (hd : DataW.Trod enc Try.prog W base spare held 130 v d ps) (hb : Rows.uptoBulk d ≤ 1048576) : IsNs W v := by
  obtain ⟨a0, l0, c0, rfl⟩ := okWide_slice Try.underlying130 hv
  obtain ⟨fuel, hf⟩ := hd
  have hd : DataW.trod enc Try.prog W base spare held fuel 130 [.slice a0 l0 c0] = some (d, ps) := by simpa [Value.cells] using hf
  obtain ⟨n, zs, h1, h2, h3⟩ := sl_ints_b (x := (d, ps)) Try.underlying130 Try.underlying3 (by kernel_rfl) hd hb
  have hl : zs.length = n := by
    obtain ⟨_, _, _, _, _, _, h, _⟩ := h1
    simpa using h
  exact ⟨zs, by unfold Ns; rw [hl]; exact h1, by omega⟩
end Go.Proofs.Ytcljeedmiobepaa.Ix
