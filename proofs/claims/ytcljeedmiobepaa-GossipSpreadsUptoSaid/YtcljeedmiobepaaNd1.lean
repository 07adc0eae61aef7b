/-
  Nodes and claims: how they read.
-/
import Derived.Test.YtcljeedmiobepaaGen1
import Derived.Test.YtcljeedmiobepaaNdLaw
import Derived.Test.YtcljeedmiobepaaRows
namespace Go.Proofs.Ytcljeedmiobepaa.Nod
open Go.RowKit Go.Gh Go.WideShapes Go.ChangeShapes Go.ChangeAt Go.Deep
set_option linter.unusedVariables false
/-- A row of tokens. -/
def Toks (w : World) (t : Value) (tk : List Int) : Prop := Sl w 1 t tk.length (tk.map (Value.int .u64)) ∧ ∀ z ∈ tk, (Lit.int .u64 z).wf = true
theorem Toks.below {w w' : World} {t : Value} {tk : List Int} (h : Toks w t tk) (hb : Below w.heap.size w w') : Toks w' t tk := ⟨h.1.below hb, h.2⟩
def NdR (w : World) (x : Nd) (c : List Value) : Prop := ∃ t, c = [.string x.nm, t] ∧ Toks w t x.tk
def ClR (w : World) (x : Cl) (c : List Value) : Prop := ∃ t, c = [.int .i64 x.ver, .int .i64 x.st, .string x.nm, t] ∧ Toks w t x.tk
theorem ndR_mono : Mono NdR := fun w w' a c ⟨t, h1, h2⟩ hb => ⟨t, h1, h2.below hb⟩
theorem clR_mono : Mono ClR := fun w w' a c ⟨t, h1, h2⟩ hb => ⟨t, h1, h2.below hb⟩
/-- The same, in rows of the call's own of type T. -/
def NdB (T : TypeId) (B : Nat) (w : World) (x : Nd) (c : List Value) : Prop := ∃ t, c = [.string x.nm, t] ∧ Toks w t x.tk ∧ Apart w B T t
/-- A slice's block, if any, is a block of tokens. -/
def ApU (w : World) (t : Value) : Prop := ∀ b, t.ownBlock = some b → ∃ cs fr, w.heap[b]? = some (.cells cs 99 fr)
theorem ApU.below {w w' : World} {t : Value} (h : ApU w t) (hb : Below w.heap.size w w') : ApU w' t := by
  intro b hv
  obtain ⟨cs, fr, h1⟩ := h b hv
  exact ⟨cs, fr, (hb.block b (Array.getElem?_eq_some_iff.1 h1).1).trans h1⟩
theorem ApU.apart {w : World} {t : Value} (h : ApU w t) {T : TypeId} (B : Nat) (hT : 99 ≠ T) : Apart w B T t := by
  intro b hv
  obtain ⟨cs, fr, h1⟩ := h b hv
  exact Or.inr ⟨cs, _, fr, h1, hT⟩
theorem ApU.grown {w w' : World} {B k m : Nat} {T : TypeId} {u t : Value} {us : List Value} (h : ApU w t) (hT : 99 ≠ T) (ho : w.ownsRow B T k u m us) (hg : w.grownBy w' u.ownBlock) : ApU w' t := by
  intro b hv
  have hne := (h.apart B hT).ne ho hv
  obtain ⟨cs, fr, h1⟩ := h b hv
  exact ⟨cs, fr, (hg.block b (Array.getElem?_eq_some_iff.1 h1).1 (fun e' => hne e'.symm)).trans h1⟩
theorem ApU.own {w : World} {B n : Nat} {v : Value} {xs : List Value} (h : w.ownsRow B 99 1 v n xs) : ApU w v := by
  intro b hv
  rcases h.2 with ⟨rfl, _⟩ | ⟨g, cap, cur, rfl, _, hg, _⟩
  · simp [Value.ownBlock] at hv
  · have : g = b := by simpa [Value.ownBlock] using hv
    subst this
    exact ⟨_, _, hg⟩
def ClB (T : TypeId) (B : Nat) (w : World) (x : Cl) (c : List Value) : Prop := ∃ t, c = [.int .i64 x.ver, .int .i64 x.st, .string x.nm, t] ∧ Toks w t x.tk ∧ ApU w t
theorem ndB_mono {T : TypeId} {B : Nat} : Mono (NdB T B) := fun w w' a c ⟨t, h1, h2, h3⟩ hb => ⟨t, h1, h2.below hb, h3.below hb⟩
theorem clB_mono {T : TypeId} {B : Nat} : Mono (ClB T B) := fun w w' a c ⟨t, h1, h2, h3⟩ hb => ⟨t, h1, h2.below hb, h3.below hb⟩
theorem ndB_grow {T : TypeId} {k B : Nat} : Grow (NdB T B) T k B := fun w w' a c u m us ⟨t, h1, h2, h3⟩ ho hg => ⟨t, h1, ⟨h2.1.grownA h3 ho hg, h2.2⟩, h3.grown ho hg⟩
theorem clB_grow {T : TypeId} {k B : Nat} (hT : 99 ≠ T := by decide) : Grow (ClB T B) T k B := fun w w' a c u m us ⟨t, h1, h2, h3⟩ ho hg => ⟨t, h1, ⟨h2.1.grownA (h3.apart B hT) ho hg, h2.2⟩, h3.grown hT ho hg⟩
theorem Toks.one {w : World} {t : Value} {tk : List Int} (h : Toks w t tk) : t.oneCell' = true := by
  obtain ⟨ao, c, rfl, _⟩ := h.1.shape
  rfl
theorem clB_clR {T : TypeId} {B : Nat} {w : World} (a : Cl) (c : List Value) (h : ClB T B w a c) : ClR w a c := by
  obtain ⟨t, h1, h2, _⟩ := h
  exact ⟨t, h1, h2⟩
theorem ndB_ndR {T : TypeId} {B : Nat} {w : World} (a : Nd) (c : List Value) (h : NdB T B w a c) : NdR w a c := by
  obtain ⟨t, h1, h2, _⟩ := h
  exact ⟨t, h1, h2⟩
/-- A token's cell. -/
theorem Toks.at {w : World} {ao : Option Addr} {n c i : Nat} {tk : List Int} (h : Toks w (.slice ao n c) tk) (hi : i < tk.length) : ∃ b off, ao = some ⟨b, off, none⟩ ∧ w.cell? ⟨b, off + i, none⟩ = some (.int .u64 (tk.getD i 0)) := by
  obtain ⟨h1, h2⟩ := h
  obtain ⟨ao', cap, e, _⟩ := h1.shape
  simp at e
  obtain ⟨rfl, rfl, rfl⟩ := e
  exact h1.int hi
theorem infoNd : (Try.prog.info? 25).map (fun i => (i.zero, i.size, i.bytes)) = some (some (.agg #[.string ByteArray.empty, .slice none 0 0]), 2, 40) := by kernel_rfl
theorem elNd : Elem Try.prog 31 25 2 40 := elem_of Try.underlying31 infoNd rfl (by decide)
theorem infoCl : (Try.prog.info? 27).map (fun i => (i.zero, i.size, i.bytes)) = some (some (.agg #[.int .i64 0, .int .i64 0, .string ByteArray.empty, .slice none 0 0]), 4, 56) := by kernel_rfl
theorem elCl : Elem Try.prog 22 27 4 56 := elem_of Try.underlying22 infoCl rfl (by decide)
theorem infoU64 : (Try.prog.info? 99).map (fun i => (i.zero, i.size, i.bytes)) = some (some (.int .u64 0), 1, 8) := by kernel_rfl
theorem elU64 : Elem Try.prog 23 99 1 8 := elem_of Try.underlying23 infoU64 rfl (by decide)
section
variable {H : Type} {enc : TypeId × Value → H} {W : World} {base b0 : Nat} {r : Reach} {spare : Nat → Bool} {held : Bool} {v : Value} {d : DataW H} {ps : List MemPlace}
theorem sl_toks {fuel : Nat} {v : Value} {x : DataW H × List MemPlace} (h : DataW.trod enc Try.prog W base spare held fuel 23 [v] = some x) : ∃ zs : List Int, Toks W v zs := by
  rcases open_ints Try.underlying23 Try.underlying99 (by kernel_rfl) h with ⟨hcs, _⟩ | ⟨a, len, cap, zs, hcs, _, hl, hm, hz, hx, hcell, hwz⟩
  · obtain rfl : v = .slice none 0 0 := by simpa using hcs
    exact ⟨[], ⟨none, 0, rfl, Nat.le_refl _, Nat.zero_le _, fun _ => rfl, by simp, fun h => absurd h (Nat.lt_irrefl _)⟩, by simp⟩
  · obtain rfl : v = .slice (some a) len cap := by simpa using hcs
    have hlz : len ≤ zs.length := by rw [hz]; split <;> omega
    have htl : (zs.take len).length = len := by rw [List.length_take]; omega
    refine ⟨zs.take len, ?_, fun z hz' => hwz z (List.mem_of_mem_take hz')⟩
    rw [htl]
    refine ⟨some a, cap, rfl, hl, hm, fun h => by simp at h, by simp; omega, fun hn => ?_⟩
    have h0 := hcell 0 (by omega)
    obtain ⟨b, off, spot⟩ := a
    have hs := World.cell?_spot h0
    simp [Addr.add] at hs
    subst hs
    refine ⟨b, off, rfl, fun i u hu => ?_⟩
    have hi : i < len := by
      rcases Nat.lt_or_ge i len with h' | h'
      · exact h'
      · rw [List.getElem?_eq_none (by simp; omega)] at hu; simp at hu
    have := hcell i (by omega)
    rw [addr_add] at this
    rw [this]
    have hi' : i < zs.length := by omega
    simp [List.getElem?_map, hi, List.getElem?_eq_getElem hi'] at hu
    rw [← hu, List.getD_eq_getElem?_getD, List.getElem?_eq_getElem hi']
    rfl
theorem kCl : Try.prog.cellsOf 27 = 4 ∧ Try.prog.cellsOf 25 = 2 ∧ Try.prog.cellsOf 2 = 1 ∧ Try.prog.cellsOf 3 = 1 ∧ Try.prog.cellsOf 9 = 1 ∧ Try.prog.cellsOf 23 = 1 := ⟨by kernel_rfl, by kernel_rfl, by kernel_rfl, by kernel_rfl, by kernel_rfl, by kernel_rfl⟩
theorem trod_node {fuel : Nat} {c2 c3 : Value} {x : DataW H × List MemPlace} (h : DataW.trod enc Try.prog W base spare held fuel 25 [c2, c3] = some x) : ∃ y : Nd, NdR W y [c2, c3] := by
  obtain ⟨ys, n2, _, _, _, hyl, hfy⟩ := DataW.trod_struct Try.underlying25 h
  obtain ⟨k1, k2, k3, k4, k5, k6⟩ := kCl
  have hys : ys.length = 2 := hyl
  have g0 : DataW.trod enc Try.prog W base spare held n2 9 (([c2, c3].drop 0).take (Try.prog.cellsOf 9)) = ys[0]? := hfy 0 _ rfl
  have g1 : DataW.trod enc Try.prog W base spare held n2 23 (([c2, c3].drop 1).take (Try.prog.cellsOf 23)) = ys[1]? := hfy 1 _ rfl
  rw [k5] at g0
  rw [k6] at g1
  simp only [List.drop, List.take] at g0 g1
  rw [List.getElem?_eq_getElem (by rw [hys]; decide)] at g0 g1
  obtain ⟨s, e2, _, _⟩ := DataW.trod_string Try.underlying9 g0
  obtain ⟨tk, htk⟩ := sl_toks g1
  have e2' : c2 = .string s := by simpa using e2
  exact ⟨⟨s, tk⟩, c3, by rw [e2'], htk⟩
/-- The four cells of a claim. -/
theorem trod_claim {fuel : Nat} {c0 c1 c2 c3 : Value} {x : DataW H × List MemPlace} (h : DataW.trod enc Try.prog W base spare held fuel 27 [c0, c1, c2, c3] = some x) : ∃ c : Cl, ClR W c [c0, c1, c2, c3] := by
  obtain ⟨xs, n', _, _, hlen, hxl, hfl⟩ := DataW.trod_struct Try.underlying27 h
  obtain ⟨k1, k2, k3, k4, k5, k6⟩ := kCl
  have hxs : xs.length = 3 := hxl
  have f0 : DataW.trod enc Try.prog W base spare held n' 2 (([c0, c1, c2, c3].drop 0).take (Try.prog.cellsOf 2)) = xs[0]? := hfl 0 _ rfl
  have f1 : DataW.trod enc Try.prog W base spare held n' 3 (([c0, c1, c2, c3].drop 1).take (Try.prog.cellsOf 3)) = xs[1]? := hfl 1 _ rfl
  have f2 : DataW.trod enc Try.prog W base spare held n' 25 (([c0, c1, c2, c3].drop 2).take (Try.prog.cellsOf 25)) = xs[2]? := hfl 2 _ rfl
  rw [k3] at f0
  rw [k4] at f1
  rw [k2] at f2
  simp only [List.drop, List.take] at f0 f1 f2
  rw [List.getElem?_eq_getElem (by rw [hxs]; decide)] at f0 f1 f2
  obtain ⟨z0, e0, _, w0⟩ := DataW.trod_int Try.underlying2 f0
  obtain ⟨z1, e1, _, w1⟩ := DataW.trod_int Try.underlying3 f1
  obtain ⟨y, t, e2, htk⟩ := trod_node f2
  have e0' : c0 = .int .i64 z0 := by simpa using e0
  have e1' : c1 = .int .i64 z1 := by simpa using e1
  have e2' : c2 = .string y.nm ∧ c3 = t := by simpa using e2
  exact ⟨⟨z0, z1, y.nm, y.tk⟩, t, by rw [e0', e1', e2'.1, e2'.2], htk⟩
theorem four {c : List Value} (h : c.length = 4) : ∃ c0 c1 c2 c3, c = [c0, c1, c2, c3] := by
  match c, h with
  | [c0, c1, c2, c3], _ => exact ⟨_, _, _, _, rfl⟩
theorem two {c : List Value} (h : c.length = 2) : ∃ c0 c1, c = [c0, c1] := by
  match c, h with
  | [c0, c1], _ => exact ⟨_, _, rfl⟩
def IsClaims (w : World) (v : Value) : Prop := ∃ L, Sp ClR 4 w v L
def IsNodes (w : World) (v : Value) : Prop := ∃ L, Sp NdR 2 w v L
set_option maxRecDepth 100000 in
theorem isClaims_of (hv : Value.okWide Try.prog W r b0 22 v) (hd : DataW.Trod enc Try.prog W base spare held 22 v d ps) (hs : ∀ n ∈ d.weights Try.prog 22, n ≤ reachBytes) : IsClaims W v := by
  obtain ⟨a0, l0, c0, rfl⟩ := okWide_slice Try.underlying22 hv
  obtain ⟨fuel, hf⟩ := hd
  have hf' : DataW.trod enc Try.prog W base spare held fuel 22 [.slice a0 l0 c0] = some (d, ps) := by simpa [Value.cells] using hf
  obtain ⟨L, h, _⟩ := sp_of (R := ClR) inferInstance Try.underlying22 kCl.1 (by decide) (fun fuel cs x h1 h2 => by
    obtain ⟨c0, c1, c2, c3, rfl⟩ := four h2
    exact trod_claim h1) hf'
  exact ⟨L, h⟩
set_option maxRecDepth 100000 in
theorem isNodes_of (hv : Value.okWide Try.prog W r b0 31 v) (hd : DataW.Trod enc Try.prog W base spare held 31 v d ps) (hs : ∀ n ∈ d.weights Try.prog 31, n ≤ reachBytes) : IsNodes W v := by
  obtain ⟨a0, l0, c0, rfl⟩ := okWide_slice Try.underlying31 hv
  obtain ⟨fuel, hf⟩ := hd
  have hf' : DataW.trod enc Try.prog W base spare held fuel 31 [.slice a0 l0 c0] = some (d, ps) := by simpa [Value.cells] using hf
  obtain ⟨L, h, _⟩ := sp_of (R := NdR) inferInstance Try.underlying31 kCl.2.1 (by decide) (fun fuel cs x h1 h2 => by
    obtain ⟨c0, c1, rfl⟩ := two h2
    exact trod_node h1) hf'
  exact ⟨L, h⟩
end
end Go.Proofs.Ytcljeedmiobepaa.Nod
