/-
  Moves of a shard that are handed in: how they read.
-/
import Derived.Test.YtcljeedmiobepaaHd11
namespace Go.Proofs.Ytcljeedmiobepaa.Hd
open Go.RowKit Go.Gh Go.WideShapes Go.ChangeShapes Go.ChangeAt Go.Deep Go.Proofs.Ytcljeedmiobepaa.Rk
set_option linter.unusedVariables false
structure Mv where
  k : Int
  ep : Int
  id : Int
  to' : ByteArray
  n : Int
instance : Inhabited Mv := ⟨⟨0, 0, 0, noB, 0⟩⟩
def MvR (_ : World) (x : Mv) (c : List Value) : Prop := c = [.int .i64 x.k, .int .i64 x.ep, .int .i64 x.id, .string x.to', .int .i64 x.n] ∧ (-9223372036854775808 ≤ x.id ∧ x.id ≤ 9223372036854775807) ∧ x.n ≤ 9223372036854775807
theorem mvR_mono : Mono MvR := fun w w' a c h _ => h
def IsMoves (w : World) (v : Value) : Prop := ∃ L, Sp MvR 5 w v L
section
variable {H : Type} {enc : TypeId × Value → H} {W : World} {base b0 : Nat} {r : Reach} {spare : Nat → Bool} {held : Bool} {v : Value} {d : DataW H} {ps : List MemPlace}
theorem kMv : Try.prog.cellsOf 66 = 5 ∧ Try.prog.cellsOf 3 = 1 ∧ Try.prog.cellsOf 2 = 1 ∧ Try.prog.cellsOf 9 = 1 := ⟨by kernel_rfl, by kernel_rfl, by kernel_rfl, by kernel_rfl⟩
theorem mv_wf {z : Int} (h : (Lit.int .i64 z).wf = true) : -9223372036854775808 ≤ z ∧ z ≤ 9223372036854775807 := by
  simp [Lit.wf, IntKind.min, IntKind.max, IntKind.signed, IntKind.bits] at h
  omega
theorem trod_move {fuel : Nat} {c0 c1 c2 c3 c4 : Value} {x : DataW H × List MemPlace} (h : DataW.trod enc Try.prog W base spare held fuel 66 [c0, c1, c2, c3, c4] = some x) : ∃ y : Mv, MvR W y [c0, c1, c2, c3, c4] := by
  obtain ⟨xs, n', _, _, hlen, hxl, hfl⟩ := DataW.trod_struct Try.underlying66 h
  obtain ⟨k1, k2, k3, k4⟩ := kMv
  have hxs : xs.length = 5 := hxl
  have f0 : DataW.trod enc Try.prog W base spare held n' 3 (([c0, c1, c2, c3, c4].drop 0).take (Try.prog.cellsOf 3)) = xs[0]? := hfl 0 _ rfl
  have f1 : DataW.trod enc Try.prog W base spare held n' 2 (([c0, c1, c2, c3, c4].drop 1).take (Try.prog.cellsOf 2)) = xs[1]? := hfl 1 _ rfl
  have f2 : DataW.trod enc Try.prog W base spare held n' 2 (([c0, c1, c2, c3, c4].drop 2).take (Try.prog.cellsOf 2)) = xs[2]? := hfl 2 _ rfl
  have f3 : DataW.trod enc Try.prog W base spare held n' 9 (([c0, c1, c2, c3, c4].drop 3).take (Try.prog.cellsOf 9)) = xs[3]? := hfl 3 _ rfl
  have f4 : DataW.trod enc Try.prog W base spare held n' 3 (([c0, c1, c2, c3, c4].drop 4).take (Try.prog.cellsOf 3)) = xs[4]? := hfl 4 _ rfl
  rw [k2] at f0 f4
  rw [k3] at f1 f2
  rw [k4] at f3
  simp only [List.drop, List.take] at f0 f1 f2 f3 f4
  rw [List.getElem?_eq_getElem (by rw [hxs]; decide)] at f0 f1 f2 f3 f4
  obtain ⟨z0, e0, _, w0⟩ := DataW.trod_int Try.underlying3 f0
  obtain ⟨z1, e1, _, w1⟩ := DataW.trod_int Try.underlying2 f1
  obtain ⟨z2, e2, _, w2⟩ := DataW.trod_int Try.underlying2 f2
  obtain ⟨s, e3, _, _⟩ := DataW.trod_string Try.underlying9 f3
  obtain ⟨z4, e4, _, w4⟩ := DataW.trod_int Try.underlying3 f4
  obtain rfl : c0 = .int .i64 z0 := by simpa using e0
  obtain rfl : c1 = .int .i64 z1 := by simpa using e1
  obtain rfl : c2 = .int .i64 z2 := by simpa using e2
  obtain rfl : c3 = .string s := by simpa using e3
  obtain rfl : c4 = .int .i64 z4 := by simpa using e4
  exact ⟨⟨z0, z1, z2, s, z4⟩, rfl, mv_wf w2, (mv_wf w4).2⟩
theorem five {c : List Value} (h : c.length = 5) : ∃ c0 c1 c2 c3 c4, c = [c0, c1, c2, c3, c4] := by
  match c, h with
  | [c0, c1, c2, c3, c4], _ => exact ⟨_, _, _, _, _, rfl⟩
set_option maxRecDepth 100000 in
theorem isMoves_of (hv : Value.okWide Try.prog W r b0 59 v) (hd : DataW.Trod enc Try.prog W base spare held 59 v d ps) (hs : ∀ n ∈ d.weights Try.prog 59, n ≤ reachBytes) : IsMoves W v := by
  obtain ⟨a0, l0, c0, rfl⟩ := okWide_slice Try.underlying59 hv
  obtain ⟨fuel, hf⟩ := hd
  have hf' : DataW.trod enc Try.prog W base spare held fuel 59 [.slice a0 l0 c0] = some (d, ps) := by simpa [Value.cells] using hf
  obtain ⟨L, h, _⟩ := sp_of (R := MvR) inferInstance Try.underlying59 kMv.1 (by decide) (fun fuel cs x h1 h2 => by
    obtain ⟨c0, c1, c2, c3, c4, rfl⟩ := five h2
    exact trod_move h1) hf'
  exact ⟨L, h⟩
end
end Go.Proofs.Ytcljeedmiobepaa.Hd
