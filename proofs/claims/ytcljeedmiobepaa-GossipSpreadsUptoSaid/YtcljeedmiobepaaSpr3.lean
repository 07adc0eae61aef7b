/-
  Lists of claims' lists, and edges, that came in.
-/
import Derived.Test.YtcljeedmiobepaaUpto2
import Derived.Test.YtcljeedmiobepaaSpr2
namespace Go.Proofs.Ytcljeedmiobepaa.Gos
open Go.RowKit Go.Gh Go.Proofs.Ytcljeedmiobepaa.Nod Go.WideShapes Go.ChangeShapes Go.ChangeAt Go.Deep Go.Joins
set_option linter.unusedVariables false
section
variable {H : Type} {enc : TypeId × Value → H} {W : World} {base b0 : Nat} {r : Reach} {spare : Nat → Bool} {held : Bool} {v : Value} {d : DataW H} {ps : List MemPlace}
def ClRB (w : World) (x : Cl) (c : List Value) : Prop := ClR w x c ∧ (Lit.int .i64 x.ver).wf = true ∧ x.tk.length ≤ 1048576
theorem trod_nodeB {fuel : Nat} {c2 c3 : Value} {x : DataW H × List MemPlace} (h : DataW.trod enc Try.prog W base spare held fuel 25 [c2, c3] = some x) (hb : Rows.uptoBulk x.1 ≤ 1048576) : ∃ y : Nd, NdR W y [c2, c3] ∧ y.tk.length ≤ 1048576 := by
  obtain ⟨ys, n2, _, rfl, _, hyl, hfy⟩ := DataW.trod_struct Try.underlying25 h
  obtain ⟨k1, k2, k3, k4, k5, k6⟩ := kCl
  have hys : ys.length = 2 := hyl
  have g0 : DataW.trod enc Try.prog W base spare held n2 9 (([c2, c3].drop 0).take (Try.prog.cellsOf 9)) = ys[0]? := hfy 0 _ rfl
  have g1 : DataW.trod enc Try.prog W base spare held n2 23 (([c2, c3].drop 1).take (Try.prog.cellsOf 23)) = ys[1]? := hfy 1 _ rfl
  rw [k5] at g0
  rw [k6] at g1
  simp only [List.drop, List.take] at g0 g1
  rw [List.getElem?_eq_getElem (by rw [hys]; decide)] at g0 g1
  have hb1 := bulk_field hb (List.getElem?_eq_getElem (l := ys) (i := 1) (by rw [hys]; decide))
  obtain ⟨s, e2, _, _⟩ := DataW.trod_string Try.underlying9 g0
  obtain ⟨n, tk, htk, hwf, hn⟩ := sl_ints_b Try.underlying23 Try.underlying99 (by kernel_rfl) g1 hb1
  have hnl : n = tk.length := by
    obtain ⟨_, _, _, _, _, hl⟩ := htk.shape
    simpa using hl.symm
  subst hnl
  have e2' : c2 = .string s := by simpa using e2
  exact ⟨⟨s, tk⟩, ⟨c3, by rw [e2'], htk, hwf⟩, hn⟩
theorem trod_claimB {fuel : Nat} {c0 c1 c2 c3 : Value} {x : DataW H × List MemPlace} (h : DataW.trod enc Try.prog W base spare held fuel 27 [c0, c1, c2, c3] = some x) (hb : Rows.uptoBulk x.1 ≤ 1048576) : ∃ c : Cl, ClRB W c [c0, c1, c2, c3] := by
  obtain ⟨xs, n', _, rfl, hlen, hxl, hfl⟩ := DataW.trod_struct Try.underlying27 h
  obtain ⟨k1, k2, k3, k4, k5, k6⟩ := kCl
  have hxs : xs.length = 3 := hxl
  have f0 : DataW.trod enc Try.prog W base spare held n' 2 (([c0, c1, c2, c3].drop 0).take (Try.prog.cellsOf 2)) = xs[0]? := hfl 0 _ rfl
  have f1 : DataW.trod enc Try.prog W base spare held n' 3 (([c0, c1, c2, c3].drop 1).take (Try.prog.cellsOf 3)) = xs[1]? := hfl 1 _ rfl
  have f2 : DataW.trod enc Try.prog W base spare held n' 25 (([c0, c1, c2, c3].drop 2).take (Try.prog.cellsOf 25)) = xs[2]? := hfl 2 _ rfl
  rw [k3] at f0
  rw [k4] at f1
  rw [k2] at f2
  simp only [List.drop, List.take] at f0 f1 f2
  rw [List.getElem?_eq_getElem (by rw [hxs]; decide)] at f0 f1 f2
  have hb2 := bulk_field hb (List.getElem?_eq_getElem (l := xs) (i := 2) (by rw [hxs]; decide))
  obtain ⟨z0, e0, _, w0⟩ := DataW.trod_int Try.underlying2 f0
  obtain ⟨z1, e1, _, w1⟩ := DataW.trod_int Try.underlying3 f1
  obtain ⟨y, ⟨t, e2, htk⟩, hyl⟩ := trod_nodeB f2 hb2
  have e0' : c0 = .int .i64 z0 := by simpa using e0
  have e1' : c1 = .int .i64 z1 := by simpa using e1
  have e2' : c2 = .string y.nm ∧ c3 = t := by simpa using e2
  exact ⟨⟨z0, z1, y.nm, y.tk⟩, ⟨t, by rw [e0', e1', e2'.1, e2'.2], htk⟩, w0, hyl⟩
theorem trod_list {fuel : Nat} {c : Value} {x : DataW H × List MemPlace} (h : DataW.trod enc Try.prog W base spare held fuel 22 [c] = some x) (hb : Rows.uptoBulk x.1 ≤ 1048576) : ∃ L : List Cl, LsA W L [c] := by
  obtain ⟨L, ⟨P, h2, h3, h4, h5⟩, h1⟩ := sp_ofB (R := ClRB) (M := 1048576) inferInstance Try.underlying22 kCl.1 (by decide) (fun fuel cs x h1 h2 h3 => by
    obtain ⟨c0, c1, c2, c3, rfl⟩ := four h2
    exact trod_claimB h1 h3) h hb
  have hall : ∀ x ∈ L, (Lit.int .i64 x.ver).wf = true ∧ x.tk.length ≤ 1048576 := by
    intro x hx
    rw [← h2] at hx
    obtain ⟨q, hq, rfl⟩ := List.mem_map.1 hx
    exact (h4 q hq).2
  exact ⟨L, c, rfl, ⟨P, h2, h3, fun q hq => (h4 q hq).1, h5⟩, fun x hx => (hall x hx).1, h1, fun x hx => (hall x hx).2⟩
def IsLists (w : World) (v : Value) : Prop := ∃ A, Sp LsA 1 w v A
def EdRW (w : World) (x : Int × Int) (c : List Value) : Prop := EdR w x c
def IsEdges (w : World) (v : Value) : Prop := ∃ l, Sp EdR 2 w v l ∧ l.length ≤ 1048576
theorem kLs : Try.prog.cellsOf 22 = 1 ∧ Try.prog.cellsOf 55 = 2 := ⟨by kernel_rfl, by kernel_rfl⟩
set_option maxRecDepth 100000 in
theorem isLists_of (hv : Value.okWide Try.prog W r b0 50 v) (hd : DataW.Trod enc Try.prog W base spare held 50 v d ps) (hb : Rows.uptoBulk d ≤ 1048576) : IsLists W v := by
  obtain ⟨a0, l0, c0, rfl⟩ := okWide_slice Try.underlying50 hv
  obtain ⟨fuel, hf⟩ := hd
  have hf' : DataW.trod enc Try.prog W base spare held fuel 50 [.slice a0 l0 c0] = some (d, ps) := by simpa [Value.cells] using hf
  obtain ⟨L, h, _⟩ := sp_ofB (R := LsA) (M := 1048576) inferInstance Try.underlying50 kLs.1 (by decide) (fun fuel cs x h1 h2 h3 => by
    match cs, h2 with
    | [c], _ => exact trod_list h1 h3) hf' hb
  exact ⟨L, h⟩
theorem trod_edge {fuel : Nat} {c0 c1 : Value} {x : DataW H × List MemPlace} (h : DataW.trod enc Try.prog W base spare held fuel 55 [c0, c1] = some x) : ∃ y : Int × Int, EdR W y [c0, c1] := by
  obtain ⟨ys, n2, _, _, _, hyl, hfy⟩ := DataW.trod_struct Try.underlying55 h
  obtain ⟨k1, k2, k3, k4, k5, k6⟩ := kCl
  have hys : ys.length = 2 := hyl
  have g0 : DataW.trod enc Try.prog W base spare held n2 3 (([c0, c1].drop 0).take (Try.prog.cellsOf 3)) = ys[0]? := hfy 0 _ rfl
  have g1 : DataW.trod enc Try.prog W base spare held n2 3 (([c0, c1].drop 1).take (Try.prog.cellsOf 3)) = ys[1]? := hfy 1 _ rfl
  rw [k4] at g0 g1
  simp only [List.drop, List.take] at g0 g1
  rw [List.getElem?_eq_getElem (by rw [hys]; decide)] at g0 g1
  obtain ⟨z0, e0, _, _⟩ := DataW.trod_int Try.underlying3 g0
  obtain ⟨z1, e1, _, _⟩ := DataW.trod_int Try.underlying3 g1
  have e0' : c0 = .int .i64 z0 := by simpa using e0
  have e1' : c1 = .int .i64 z1 := by simpa using e1
  exact ⟨(z0, z1), by rw [e0', e1']; rfl⟩
set_option maxRecDepth 100000 in
theorem isEdges_of (hv : Value.okWide Try.prog W r b0 51 v) (hd : DataW.Trod enc Try.prog W base spare held 51 v d ps) (hb : Rows.uptoBulk d ≤ 1048576) : IsEdges W v := by
  obtain ⟨a0, l0, c0, rfl⟩ := okWide_slice Try.underlying51 hv
  obtain ⟨fuel, hf⟩ := hd
  have hf' : DataW.trod enc Try.prog W base spare held fuel 51 [.slice a0 l0 c0] = some (d, ps) := by simpa [Value.cells] using hf
  obtain ⟨L, h, h1⟩ := sp_ofB (R := EdR) (M := 1048576) inferInstance Try.underlying51 kLs.2 (by decide) (fun fuel cs x h1 h2 h3 => by
    obtain ⟨c0, c1, rfl⟩ := two h2
    exact trod_edge h1) hf' hb
  exact ⟨L, h, h1⟩
end
end Go.Proofs.Ytcljeedmiobepaa.Gos
