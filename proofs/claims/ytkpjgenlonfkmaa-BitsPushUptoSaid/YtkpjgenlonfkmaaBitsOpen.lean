/-
  An argument of type api.Bits, opened.
-/
import Derived.Test.YtkpjgenlonfkmaaUpto
import Derived.Test.YtkpjgenlonfkmaaBitsPush
namespace Go.Proofs.Ytkpjgenlonfkmaa.BitsPush
open Go.RowKit Go.ChangeShapes Go.WideShapes Go.ChangeAt Go.Joins Go.Gh Go.Proofs.Ytkpjgenlonfkmaa.Bits
set_option linter.unusedVariables false
section
variable {H : Type} {enc : TypeId × Value → H} {W : World} {base b0 : Nat} {r : Reach} {spare : Nat → Bool} {held : Bool} {v : Value} {d : DataW H} {ps : List MemPlace}
set_option maxRecDepth 100000 in
theorem cellsBits : Try.prog.cellsOf 56 = 2 := by kernel_rfl
set_option maxRecDepth 100000 in
theorem isBits_of (hv : Value.okWide Try.prog W r b0 56 v) (hd : DataW.Trod enc Try.prog W base spare held 56 v d ps) (hb : Rows.uptoBulk d ≤ 1048576) : IsBits W v := by
  obtain ⟨v0, v1, y0, y1, n, rfl, rfl, rfl, h0, h1⟩ := open_agg2 Try.underlying56 (by kernel_rfl) cellsBits hv hd
  have hb0 : Rows.uptoBulk y0.1 ≤ 1048576 := by
    simp only [Rows.uptoBulk, Rows.uptoBulkAll] at hb
    omega
  obtain ⟨len, l, hs, hwf, hlen⟩ := sl_ints_b Try.underlying28 Try.underlying5 (by kernel_rfl) h0 hb0
  obtain ⟨N, hN, _, hNw⟩ := DataW.trod_int Try.underlying3 h1
  obtain rfl : v1 = .int .i64 N := by simpa using hN
  have hNb := wf_i64 hNw
  obtain ⟨_, _, _, _, _, hll⟩ := hs.shape
  exact ⟨l, N, ⟨v0, len, rfl, hs, bytes_of_wf hwf, hwf, by omega, hNb.1, by omega⟩, by simp at hll; omega⟩
end
end Go.Proofs.Ytkpjgenlonfkmaa.BitsPush
