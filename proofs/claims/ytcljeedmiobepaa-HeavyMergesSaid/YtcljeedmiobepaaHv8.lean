/-
  Tallies of what is heavy: an argument opened.
-/
import Derived.Test.YtcljeedmiobepaaHv7
import Derived.Lib.SmallJoins
namespace Go.Proofs.Ytcljeedmiobepaa.Hv
open Go.RowKit Go.Gh Go.WideShapes Go.ChangeShapes Go.ChangeAt Go.Deep Go.Joins
set_option linter.unusedVariables false
def IsHv (w : World) (v : Value) : Prop := ∃ s, HvV w v s
section
variable {H : Type} {enc : TypeId × Value → H} {W : World} {base b0 : Nat} {r : Reach} {spare : Nat → Bool} {held : Bool} {v : Value} {d : DataW H} {ps : List MemPlace}
theorem kCt : Try.prog.cellsOf 175 = 2 := by kernel_rfl
theorem kStr : Try.prog.cellsOf 9 = 1 := by kernel_rfl
theorem kI64 : Try.prog.cellsOf 2 = 1 := by kernel_rfl
theorem trod_count {fuel : Nat} {c0 c1 : Value} {x : DataW H × List MemPlace} (h : DataW.trod enc Try.prog W base spare held fuel 175 [c0, c1] = some x) : ∃ y : Ct, CtR W y [c0, c1] := by
  obtain ⟨ys, n2, _, _, _, hyl, hfy⟩ := DataW.trod_struct Try.underlying175 h
  have hys : ys.length = 2 := hyl
  have g0 : DataW.trod enc Try.prog W base spare held n2 9 (([c0, c1].drop 0).take (Try.prog.cellsOf 9)) = ys[0]? := hfy 0 _ rfl
  have g1 : DataW.trod enc Try.prog W base spare held n2 2 (([c0, c1].drop 1).take (Try.prog.cellsOf 2)) = ys[1]? := hfy 1 _ rfl
  rw [kStr] at g0
  rw [kI64] at g1
  simp only [List.drop, List.take] at g0 g1
  rw [List.getElem?_eq_getElem (by rw [hys]; decide)] at g0 g1
  obtain ⟨s, e0, _, hsz⟩ := DataW.trod_string Try.underlying9 g0
  obtain ⟨z1, e1, _, w1⟩ := DataW.trod_int Try.underlying2 g1
  have e0' : c0 = .string s := by simpa using e0
  have e1' : c1 = .int .i64 z1 := by simpa using e1
  exact ⟨⟨s, z1⟩, by rw [e0', e1']; rfl⟩
theorem twoL {l : List Value} (h : l.length = 2) : ∃ a b, l = [a, b] := by
  match l, h with
  | [a, b], _ => exact ⟨a, b, rfl⟩
set_option maxRecDepth 100000 in
theorem cellsHv : Try.prog.cellsOf 86 = 4 := by kernel_rfl
set_option maxRecDepth 100000 in
theorem isHv_of (hv : Value.okWide Try.prog W r b0 86 v) (hd : DataW.Trod enc Try.prog W base spare held 86 v d ps) (hs : ∀ n ∈ d.weights Try.prog 86, n ≤ reachBytes) : IsHv W v := by
  obtain ⟨v0, v1, v2, v3, y0, y1, y2, y3, n, rfl, rfl, rfl, h0, h1, h2, h3⟩ := open_agg4 Try.underlying86 (by kernel_rfl) cellsHv hv hd
  obtain ⟨K, hK, _, _⟩ := DataW.trod_int Try.underlying3 h0
  obtain ⟨N, hN, _, _⟩ := DataW.trod_int Try.underlying2 h2
  obtain ⟨F, hF, _, _⟩ := DataW.trod_int Try.underlying2 h3
  obtain rfl : v0 = .int .i64 K := by simpa using hK
  obtain rfl : v2 = .int .i64 N := by simpa using hN
  obtain rfl : v3 = .int .i64 F := by simpa using hF
  obtain ⟨L, h, _⟩ := sp_of (R := CtR) inferInstance Try.underlying84 kCt (by decide) (fun fuel cs x h1 h2 => by
    obtain ⟨c0, c1, rfl⟩ := twoL h2
    exact trod_count h1) h1
  exact ⟨⟨K, L, N, F⟩, _, rfl, h⟩
end
end Go.Proofs.Ytcljeedmiobepaa.Hv
