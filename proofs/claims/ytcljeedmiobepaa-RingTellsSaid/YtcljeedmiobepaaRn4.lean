/-
  Nodes and claims: how they read.
-/
import Derived.Test.YtcljeedmiobepaaRn3
import Derived.Test.YtcljeedmiobepaaRows
import Derived.Laws.Cover1
import Derived.IntWalk
namespace Go.Proofs.Ytcljeedmiobepaa.Nod
open Go.RowKit Go.Gh Go.WideShapes Go.ChangeShapes Go.ChangeAt Go.Deep
set_option linter.unusedVariables false
/-- A row of tokens. -/
def Toks (w : World) (t : Value) (tk : List Int) : Prop := Sl w 1 t tk.length (tk.map (Value.int .u64)) ∧ ∀ z ∈ tk, (Lit.int .u64 z).wf = true
theorem Toks.below {w w' : World} {t : Value} {tk : List Int} (h : Toks w t tk) (hb : Below w.heap.size w w') : Toks w' t tk := ⟨h.1.below hb, h.2⟩
def NdR (w : World) (x : Nd) (c : List Value) : Prop := ∃ t, c = [.string x.nm, t] ∧ Toks w t x.tk
def ClR (w : World) (x : Cl) (c : List Value) : Prop := ∃ t, c = [.int .i64 x.ver, .int .i64 x.st, .string x.nm, t] ∧ Toks w t x.tk
theorem ndR_mono : Mono NdR := fun w w' a c ⟨t, h1, h2⟩ hb => ⟨t, h1, h2.below hb⟩
theorem clR_mono : Mono ClR := fun w w' a c ⟨t, h1, h2⟩ hb => ⟨t, h1, h2.below hb⟩
/-- The same, in rows of the call's own of type T. -/
def NdB (T : TypeId) (B : Nat) (w : World) (x : Nd) (c : List Value) : Prop := ∃ t, c = [.string x.nm, t] ∧ Toks w t x.tk ∧ Apart w B T t
/-- A slice's block, if any, is a block of tokens. -/
def ApU (w : World) (t : Value) : Prop := ∀ b, t.ownBlock = some b → ∃ cs fr, w.heap[b]? = some (.cells cs 99 fr)
theorem ApU.below {w w' : World} {t : Value} (h : ApU w t) (hb : Below w.heap.size w w') : ApU w' t := by
  intro b hv
  obtain ⟨cs, fr, h1⟩ := h b hv
  exact ⟨cs, fr, (hb.block b (Array.getElem?_eq_some_iff.1 h1).1).trans h1⟩
theorem ApU.apart {w : World} {t : Value} (h : ApU w t) {T : TypeId} (B : Nat) (hT : 99 ≠ T) : Apart w B T t := by
  intro b hv
  obtain ⟨cs, fr, h1⟩ := h b hv
  exact Or.inr ⟨cs, _, fr, h1, hT⟩
theorem ApU.grown {w w' : World} {B k m : Nat} {T : TypeId} {u t : Value} {us : List Value} (h : ApU w t) (hT : 99 ≠ T) (ho : w.ownsRow B T k u m us) (hg : w.grownBy w' u.ownBlock) : ApU w' t := by
  intro b hv
  have hne := (h.apart B hT).ne ho hv
  obtain ⟨cs, fr, h1⟩ := h b hv
  exact ⟨cs, fr, (hg.block b (Array.getElem?_eq_some_iff.1 h1).1 (fun e' => hne e'.symm)).trans h1⟩
theorem ApU.own {w : World} {B n : Nat} {v : Value} {xs : List Value} (h : w.ownsRow B 99 1 v n xs) : ApU w v := by
  intro b hv
  rcases h.2 with ⟨rfl, _⟩ | ⟨g, cap, cur, rfl, _, hg, _⟩
  · simp [Value.ownBlock] at hv
  · have : g = b := by simpa [Value.ownBlock] using hv
    subst this
    exact ⟨_, _, hg⟩
def ClB (T : TypeId) (B : Nat) (w : World) (x : Cl) (c : List Value) : Prop := ∃ t, c = [.int .i64 x.ver, .int .i64 x.st, .string x.nm, t] ∧ Toks w t x.tk ∧ ApU w t
theorem ndB_mono {T : TypeId} {B : Nat} : Mono (NdB T B) := fun w w' a c ⟨t, h1, h2, h3⟩ hb => ⟨t, h1, h2.below hb, h3.below hb⟩
theorem clB_mono {T : TypeId} {B : Nat} : Mono (ClB T B) := fun w w' a c ⟨t, h1, h2, h3⟩ hb => ⟨t, h1, h2.below hb, h3.below hb⟩
theorem ndB_grow {T : TypeId} {k B : Nat} : Grow (NdB T B) T k B := fun w w' a c u m us ⟨t, h1, h2, h3⟩ ho hg => ⟨t, h1, ⟨h2.1.grownA h3 ho hg, h2.2⟩, h3.grown ho hg⟩
theorem clB_grow {T : TypeId} {k B : Nat} (hT : 99 ≠ T := by decide) : Grow (ClB T B) T k B := fun w w' a c u m us ⟨t, h1, h2, h3⟩ ho hg => ⟨t, h1, ⟨h2.1.grownA (h3.apart B hT) ho hg, h2.2⟩, h3.grown hT ho hg⟩
theorem Toks.one {w : World} {t : Value} {tk : List Int} (h : Toks w t tk) : t.oneCell' = true := by
  obtain ⟨ao, c, rfl, _⟩ := h.1.shape
  rfl
theorem clB_clR {T : TypeId} {B : Nat} {w : World} (a : Cl) (c : List Value) (h : ClB T B w a c) : ClR w a c := by
  obtain ⟨t, h1, h2, _⟩ := h
  exact ⟨t, h1, h2⟩
theorem ndB_ndR {T : TypeId} {B : Nat} {w : World} (a : Nd) (c : List Value) (h : NdB T B w a c) : NdR w a c := by
  obtain ⟨t, h1, h2, _⟩ := h
  exact ⟨t, h1, h2⟩
/-- A token's cell. -/
theorem Toks.at {w : World} {ao : Option Addr} {n c i : Nat} {tk : List Int} (h : Toks w (.slice ao n c) tk) (hi : i < tk.length) : ∃ b off, ao = some ⟨b, off, none⟩ ∧ w.cell? ⟨b, off + i, none⟩ = some (.int .u64 (tk.getD i 0)) := by
  obtain ⟨h1, h2⟩ := h
  obtain ⟨ao', cap, e, _⟩ := h1.shape
  simp at e
  obtain ⟨rfl, rfl, rfl⟩ := e
  exact h1.int hi
theorem infoNd : (Try.prog.info? 25).map (fun i => (i.zero, i.size, i.bytes)) = some (some (.agg #[.string ByteArray.empty, .slice none 0 0]), 2, 40) := by kernel_rfl
theorem elNd : Elem Try.prog 31 25 2 40 := elem_of Try.underlying31 infoNd rfl (by decide)
theorem infoCl : (Try.prog.info? 27).map (fun i => (i.zero, i.size, i.bytes)) = some (some (.agg #[.int .i64 0, .int .i64 0, .string ByteArray.empty, .slice none 0 0]), 4, 56) := by kernel_rfl
theorem elCl : Elem Try.prog 22 27 4 56 := elem_of Try.underlying22 infoCl rfl (by decide)
theorem infoU64 : (Try.prog.info? 99).map (fun i => (i.zero, i.size, i.bytes)) = some (some (.int .u64 0), 1, 8) := by kernel_rfl
theorem elU64 : Elem Try.prog 23 99 1 8 := elem_of Try.underlying23 infoU64 rfl (by decide)
section
variable {H : Type} {enc : TypeId × Value → H} {W : World} {base b0 : Nat} {r : Reach} {spare : Nat → Bool} {held : Bool} {v : Value} {d : DataW H} {ps : List MemPlace}
theorem sl_toks {fuel : Nat} {v : Value} {x : DataW H × List MemPlace} (h : DataW.trod enc Try.prog W base spare held fuel 23 [v] = some x) : ∃ zs : List Int, Toks W v zs := by
  rcases open_ints Try.underlying23 Try.underlying99 (by kernel_rfl) h with ⟨hcs, _⟩ | ⟨a, len, cap, zs, hcs, _, hl, hm, hz, hx, hcell, hwz⟩
  · obtain rfl : v = .slice none 0 0 := by simpa using hcs
    exact ⟨[], ⟨none, 0, rfl, Nat.le_refl _, Nat.zero_le _, fun _ => rfl, by simp, fun h => absurd h (Nat.lt_irrefl _)⟩, by simp⟩
  · obtain rfl : v = .slice (some a) len cap := by simpa using hcs
    have hlz : len ≤ zs.length := by rw [hz]; split <;> omega
    have htl : (zs.take len).length = len := by rw [List.length_take]; omega
    refine ⟨zs.take len, ?_, fun z hz' => hwz z (List.mem_of_mem_take hz')⟩
    rw [htl]
    refine ⟨some a, cap, rfl, hl, hm, fun h => by simp at h, by simp; omega, fun hn => ?_⟩
    have h0 := hcell 0 (by omega)
    obtain ⟨b, off, spot⟩ := a
    have hs := World.cell?_spot h0
    simp [Addr.add] at hs
    subst hs
    refine ⟨b, off, rfl, fun i u hu => ?_⟩
    have hi : i < len := by
      rcases Nat.lt_or_ge i len with h' | h'
      · exact h'
      · rw [List.getElem?_eq_none (by simp; omega)] at hu; simp at hu
    have := hcell i (by omega)
    rw [addr_add] at this
    rw [this]
    have hi' : i < zs.length := by omega
    simp [List.getElem?_map, hi, List.getElem?_eq_getElem hi'] at hu
    rw [← hu, List.getD_eq_getElem?_getD, List.getElem?_eq_getElem hi']
    rfl
theorem kCl : Try.prog.cellsOf 27 = 4 ∧ Try.prog.cellsOf 25 = 2 ∧ Try.prog.cellsOf 2 = 1 ∧ Try.prog.cellsOf 3 = 1 ∧ Try.prog.cellsOf 9 = 1 ∧ Try.prog.cellsOf 23 = 1 := ⟨by kernel_rfl, by kernel_rfl, by kernel_rfl, by kernel_rfl, by kernel_rfl, by kernel_rfl⟩
theorem trod_node {fuel : Nat} {c2 c3 : Value} {x : DataW H × List MemPlace} (h : DataW.trod enc Try.prog W base spare held fuel 25 [c2, c3] = some x) : ∃ y : Nd, NdR W y [c2, c3] := by
  obtain ⟨ys, n2, _, _, _, hyl, hfy⟩ := DataW.trod_struct Try.underlying25 h
  obtain ⟨k1, k2, k3, k4, k5, k6⟩ := kCl
  have hys : ys.length = 2 := hyl
  have g0 : DataW.trod enc Try.prog W base spare held n2 9 (([c2, c3].drop 0).take (Try.prog.cellsOf 9)) = ys[0]? := hfy 0 _ rfl
  have g1 : DataW.trod enc Try.prog W base spare held n2 23 (([c2, c3].drop 1).take (Try.prog.cellsOf 23)) = ys[1]? := hfy 1 _ rfl
  rw [k5] at g0
  rw [k6] at g1
  simp only [List.drop, List.take] at g0 g1
  rw [List.getElem?_eq_getElem (by rw [hys]; decide)] at g0 g1
  obtain ⟨s, e2, _, _⟩ := DataW.trod_string Try.underlying9 g0
  obtain ⟨tk, htk⟩ := sl_toks g1
  have e2' : c2 = .string s := by simpa using e2
  exact ⟨⟨s, tk⟩, c3, by rw [e2'], htk⟩
/-- The four cells of a claim. -/
theorem trod_claim {fuel : Nat} {c0 c1 c2 c3 : Value} {x : DataW H × List MemPlace} (h : DataW.trod enc Try.prog W base spare held fuel 27 [c0, c1, c2, c3] = some x) : ∃ c : Cl, ClR W c [c0, c1, c2, c3] := by
  obtain ⟨xs, n', _, _, hlen, hxl, hfl⟩ := DataW.trod_struct Try.underlying27 h
  obtain ⟨k1, k2, k3, k4, k5, k6⟩ := kCl
  have hxs : xs.length = 3 := hxl
  have f0 : DataW.trod enc Try.prog W base spare held n' 2 (([c0, c1, c2, c3].drop 0).take (Try.prog.cellsOf 2)) = xs[0]? := hfl 0 _ rfl
  have f1 : DataW.trod enc Try.prog W base spare held n' 3 (([c0, c1, c2, c3].drop 1).take (Try.prog.cellsOf 3)) = xs[1]? := hfl 1 _ rfl
  have f2 : DataW.trod enc Try.prog W base spare held n' 25 (([c0, c1, c2, c3].drop 2).take (Try.prog.cellsOf 25)) = xs[2]? := hfl 2 _ rfl
  rw [k3] at f0
  rw [k4] at f1
  rw [k2] at f2
  simp only [List.drop, List.take] at f0 f1 f2
  rw [List.getElem?_eq_getElem (by rw [hxs]; decide)] at f0 f1 f2
  obtain ⟨z0, e0, _, w0⟩ := DataW.trod_int Try.underlying2 f0
  obtain ⟨z1, e1, _, w1⟩ := DataW.trod_int Try.underlying3 f1
  obtain ⟨y, t, e2, htk⟩ := trod_node f2
  have e0' : c0 = .int .i64 z0 := by simpa using e0
  have e1' : c1 = .int .i64 z1 := by simpa using e1
  have e2' : c2 = .string y.nm ∧ c3 = t := by simpa using e2
  exact ⟨⟨z0, z1, y.nm, y.tk⟩, t, by rw [e0', e1', e2'.1, e2'.2], htk⟩
theorem four {c : List Value} (h : c.length = 4) : ∃ c0 c1 c2 c3, c = [c0, c1, c2, c3] := by
  match c, h with
  | [c0, c1, c2, c3], _ => exact ⟨_, _, _, _, rfl⟩
theorem two {c : List Value} (h : c.length = 2) : ∃ c0 c1, c = [c0, c1] := by
  match c, h with
  | [c0, c1], _ => exact ⟨_, _, rfl⟩
def IsClaims (w : World) (v : Value) : Prop := ∃ L, Sp ClR 4 w v L
def IsNodes (w : World) (v : Value) : Prop := ∃ L, Sp NdR 2 w v L
set_option maxRecDepth 100000 in
theorem isClaims_of (hv : Value.okWide Try.prog W r b0 22 v) (hd : DataW.Trod enc Try.prog W base spare held 22 v d ps) (hs : ∀ n ∈ d.weights Try.prog 22, n ≤ reachBytes) : IsClaims W v := by
  obtain ⟨a0, l0, c0, rfl⟩ := okWide_slice Try.underlying22 hv
  obtain ⟨fuel, hf⟩ := hd
  have hf' : DataW.trod enc Try.prog W base spare held fuel 22 [.slice a0 l0 c0] = some (d, ps) := by simpa [Value.cells] using hf
  obtain ⟨L, h, _⟩ := sp_of (R := ClR) inferInstance Try.underlying22 kCl.1 (by decide) (fun fuel cs x h1 h2 => by
    obtain ⟨c0, c1, c2, c3, rfl⟩ := four h2
    exact trod_claim h1) hf'
  exact ⟨L, h⟩
set_option maxRecDepth 100000 in
theorem isNodes_of (hv : Value.okWide Try.prog W r b0 31 v) (hd : DataW.Trod enc Try.prog W base spare held 31 v d ps) (hs : ∀ n ∈ d.weights Try.prog 31, n ≤ reachBytes) : IsNodes W v := by
  obtain ⟨a0, l0, c0, rfl⟩ := okWide_slice Try.underlying31 hv
  obtain ⟨fuel, hf⟩ := hd
  have hf' : DataW.trod enc Try.prog W base spare held fuel 31 [.slice a0 l0 c0] = some (d, ps) := by simpa [Value.cells] using hf
  obtain ⟨L, h, _⟩ := sp_of (R := NdR) inferInstance Try.underlying31 kCl.2.1 (by decide) (fun fuel cs x h1 h2 => by
    obtain ⟨c0, c1, rfl⟩ := two h2
    exact trod_node h1) hf'
  exact ⟨L, h⟩
end
end Go.Proofs.Ytcljeedmiobepaa.Nod
/-
  The ring: the owners of a number, the program's way and the document's.
-/
namespace Go.Gh
set_option linter.unusedVariables false
/-- A token, and its node. -/
structure Pl where
  t : Int
  nm : ByteArray
def distR (at' t : Int) : Int := (t - at') % 18446744073709551616
open Classical in
/-- The program's step. -/
noncomputable def owS (n : Nat) (acc : List ByteArray) (x : Pl) : List ByteArray := if acc.length < n ∧ x.nm ∉ acc then acc ++ [x.nm] else acc
noncomputable def owP (n : Nat) (acc : List ByteArray) (q : List Pl) : List ByteArray := q.foldl (owS n) acc
open Classical in
/-- The document's search: the nearest place of a node that was not told. -/
noncomputable def pickS (at' : Int) (out : List ByteArray) (b : Option Pl) (x : Pl) : Option Pl :=
  if x.nm ∉ out ∧ (∀ y, b = some y → distR at' x.t < distR at' y.t) then some x else b
noncomputable def pickR (at' : Int) (out : List ByteArray) (b : Option Pl) (l : List Pl) : Option Pl := l.foldl (pickS at' out) b
/-- The document's way, by steps. -/
inductive GrR (at' : Int) (n : Nat) (l : List Pl) : List ByteArray → List ByteArray → Prop
  | full (out) : ¬ out.length < n → GrR at' n l out out
  | none (out) : out.length < n → pickR at' out none l = none → GrR at' n l out out
  | some (out x r) : out.length < n → pickR at' out none l = some x → GrR at' n l (out ++ [x.nm]) r → GrR at' n l out r
section
variable {key : ByteArray → Int} {at' : Int}
def lexLe (key : ByteArray → Int) (at' : Int) (x y : Pl) : Prop := distR at' x.t < distR at' y.t ∨ (distR at' x.t = distR at' y.t ∧ key x.nm ≤ key y.nm)
theorem lexLe.trans {x y z : Pl} (h1 : lexLe key at' x y) (h2 : lexLe key at' y z) : lexLe key at' x z := by
  unfold lexLe at *
  omega
theorem lexLe.refl (x : Pl) : lexLe key at' x x := Or.inr ⟨rfl, Int.le_refl _⟩
theorem dist_inj {x y : Int} (hx : 0 ≤ x ∧ x < 18446744073709551616) (hy : 0 ≤ y ∧ y < 18446744073709551616) (h : distR at' x = distR at' y) : x = y := by
  unfold distR at h
  omega
/-- What pickR finds. -/
theorem pick_spec (out : List ByteArray) : ∀ (l : List Pl) (b : Option Pl), (∀ y, b = some y → y.nm ∉ out) → (b.toList ++ l).Pairwise (fun x y => key x.nm ≤ key y.nm) →
    match pickR at' out b l with
    | none => b = none ∧ ∀ x ∈ l, x.nm ∈ out
    | some m => m.nm ∉ out ∧ (b = some m ∨ m ∈ l) ∧ (∀ y, b = some y → lexLe key at' m y) ∧ ∀ y ∈ l, y.nm ∉ out → lexLe key at' m y
  | [], none, _, _ => by
    show (none : Option Pl) = none ∧ _
    exact ⟨rfl, fun x hx => by simp at hx⟩
  | [], some b, hb, _ => by
    show b.nm ∉ out ∧ _
    exact ⟨hb b rfl, Or.inl rfl, fun y hy => by injection hy with hy; subst hy; exact lexLe.refl _, fun y hy => by simp at hy⟩
  | x :: l, b, hb, hp => by
    have hstep : pickR at' out b (x :: l) = pickR at' out (pickS at' out b x) l := rfl
    rw [hstep]
    by_cases hx : x.nm ∉ out ∧ (∀ y, b = some y → distR at' x.t < distR at' y.t)
    · have hs : pickS at' out b x = some x := if_pos hx
      rw [hs]
      have ih := pick_spec out l (some x) (fun y hy => by injection hy with hy; subst hy; exact hx.1) (by
        have := (List.pairwise_append.1 hp).2.1
        simpa using this)
      revert ih
      cases pickR at' out (some x) l with
      | none => intro ih; exact absurd ih.1 (by simp)
      | some m =>
        rintro ⟨i1, i2, i3, i4⟩
        refine ⟨i1, Or.inr (i2.elim (fun e => by injection e with e; subst e; simp) (fun h => by simp [h])), fun y hy => (i3 x rfl).trans (Or.inl (hx.2 y hy)), fun y hy hyo => ?_⟩
        rcases List.mem_cons.1 hy with rfl | hy
        · exact i3 _ rfl
        · exact i4 y hy hyo
    · have hs : pickS at' out b x = b := if_neg hx
      rw [hs]
      have ih := pick_spec out l b hb (by
        have h1 := List.pairwise_append.1 hp
        exact List.pairwise_append.2 ⟨h1.1, (List.pairwise_cons.1 h1.2.1).2, fun a ha c hc => h1.2.2 a ha c (List.mem_cons_of_mem _ hc)⟩)
      revert ih
      cases hm : pickR at' out b l with
      | none =>
        rintro ⟨i1, i2⟩
        refine ⟨i1, fun y hy => ?_⟩
        rcases List.mem_cons.1 hy with rfl | hy
        · refine Classical.byContradiction fun h => hx ⟨h, fun z hz => ?_⟩
          rw [i1] at hz
          simp at hz
        · exact i2 y hy
      | some m =>
        rintro ⟨i1, i2, i3, i4⟩
        refine ⟨i1, i2.elim Or.inl (fun h => Or.inr (List.mem_cons_of_mem _ h)), i3, fun y hy hyo => ?_⟩
        rcases List.mem_cons.1 hy with rfl | hy
        · -- y was not taken: some b stands, no farther
          have : ∃ z, b = some z ∧ ¬ distR at' y.t < distR at' z.t := Classical.byContradiction fun h => hx ⟨hyo, fun z hz => Classical.byContradiction fun h' => h ⟨z, hz, h'⟩⟩
          obtain ⟨z, rfl, hz⟩ := this
          have hk : key z.nm ≤ key y.nm := (List.pairwise_append.1 hp).2.2 z (by simp) y (by simp)
          refine (i3 z rfl).trans ?_
          unfold lexLe
          omega
        · exact i4 y hy hyo
/-- The first of an ordered row that was not told is what the search finds. -/
theorem pick_find {l q : List Pl} {out : List ByteArray} (hinj : ∀ x ∈ l, ∀ y ∈ l, key x.nm = key y.nm → x.nm = y.nm) (hl : l.Pairwise (fun x y => key x.nm ≤ key y.nm)) (hw : ∀ x ∈ l, 0 ≤ x.t ∧ x.t < 18446744073709551616)
    (hq : q.Pairwise (lexLe key at')) (hm : ∀ x, x ∈ q ↔ x ∈ l) :
    (∀ x ∈ q, x.nm ∈ out) ∧ pickR at' out none l = none ∨ ∃ q1 x q2, q = q1 ++ x :: q2 ∧ (∀ y ∈ q1, y.nm ∈ out) ∧ x.nm ∉ out ∧ pickR at' out none l = some x := by
  have hs := pick_spec (key := key) (at' := at') out l none (fun y hy => by simp at hy) (by simpa using hl)
  cases hp : pickR at' out none l with
  | none =>
    rw [hp] at hs
    exact Or.inl ⟨fun x hx => hs.2 x ((hm x).1 hx), rfl⟩
  | some m =>
    rw [hp] at hs
    obtain ⟨i1, i2, -, i4⟩ := hs
    have hml : m ∈ l := i2.elim (fun h => by simp at h) id
    refine Or.inr ?_
    -- the first of q that was not told
    have hfirst : ∀ q : List Pl, (∃ x ∈ q, x.nm ∉ out) → ∃ q1 x q2, q = q1 ++ x :: q2 ∧ (∀ y ∈ q1, y.nm ∈ out) ∧ x.nm ∉ out := by
      intro q
      induction q with
      | nil => rintro ⟨x, hx, _⟩; simp at hx
      | cons z q ih =>
        intro h
        by_cases hz : z.nm ∈ out
        · obtain ⟨q1, x, q2, e, h1, h2⟩ := ih (by
            obtain ⟨x, hx, hxo⟩ := h
            rcases List.mem_cons.1 hx with rfl | hx
            · exact absurd hz hxo
            · exact ⟨x, hx, hxo⟩)
          exact ⟨z :: q1, x, q2, by rw [e]; rfl, fun y hy => (List.mem_cons.1 hy).elim (fun e => e ▸ hz) (h1 y), h2⟩
        · exact ⟨[], z, q, rfl, fun y hy => by simp at hy, hz⟩
    obtain ⟨q1, x, q2, e, h1, h2⟩ := hfirst q ⟨m, (hm m).2 hml, i1⟩
    have hxl : x ∈ l := (hm x).1 (by rw [e]; simp)
    have hxm : lexLe key at' x m := by
      have hmq : m ∈ q := (hm m).2 hml
      rw [e] at hmq hq
      rcases List.mem_append.1 hmq with h | h
      · exact absurd (h1 m h) i1
      · rcases List.mem_cons.1 h with rfl | h
        · exact lexLe.refl _
        · exact (List.pairwise_cons.1 (List.pairwise_append.1 hq).2.1).1 m h
    have hmx := i4 x hxl h2
    have hd : distR at' x.t = distR at' m.t ∧ key x.nm = key m.nm := by
      unfold lexLe at hxm hmx
      omega
    have ht := dist_inj (hw x hxl) (hw m hml) hd.1
    have hn := hinj x hxl m hml hd.2
    have : x = m := by cases x; cases m; simp_all
    subst this
    exact ⟨q1, x, q2, e, h1, h2, rfl⟩
theorem owP_skip {n : Nat} {acc : List ByteArray} : ∀ {q1 q2 : List Pl}, (∀ y ∈ q1, y.nm ∈ acc) → owP n acc (q1 ++ q2) = owP n acc q2
  | [], q2, _ => rfl
  | y :: q1, q2, h => by
    have hs : owS n acc y = acc := if_neg (fun h' => h'.2 (h y (by simp)))
    show owP n (owS n acc y) (q1 ++ q2) = _
    rw [hs]
    exact owP_skip (fun z hz => h z (by simp [hz]))
theorem owP_full {n : Nat} {acc : List ByteArray} (h : ¬ acc.length < n) : ∀ {q : List Pl}, owP n acc q = acc
  | [] => rfl
  | y :: q => by
    have hs : owS n acc y = acc := if_neg (fun h' => h h'.1)
    show owP n (owS n acc y) q = _
    rw [hs]
    exact owP_full h
theorem owP_all {n : Nat} {acc : List ByteArray} {q : List Pl} (h : ∀ y ∈ q, y.nm ∈ acc) : owP n acc q = acc := by
  have := owP_skip (n := n) (q2 := []) h
  rw [List.append_nil] at this
  exact this
/-- Both ways tell the same. -/
theorem gr_ow {n : Nat} {l q : List Pl} (hinj : ∀ x ∈ l, ∀ y ∈ l, key x.nm = key y.nm → x.nm = y.nm) (hl : l.Pairwise (fun x y => key x.nm ≤ key y.nm)) (hw : ∀ x ∈ l, 0 ≤ x.t ∧ x.t < 18446744073709551616)
    (hq : q.Pairwise (lexLe key at')) (hm : ∀ x, x ∈ q ↔ x ∈ l) {out r : List ByteArray} (h : GrR at' n l out r) : r = owP n out q := by
  induction h with
  | full out h => exact (owP_full h).symm
  | none out h hp =>
    rcases pick_find (out := out) hinj hl hw hq hm with ⟨h1, -⟩ | ⟨q1, x, q2, e, h1, h2, h3⟩
    · exact (owP_all h1).symm
    · rw [hp] at h3; simp at h3
  | some out x r h hp hr ih =>
    rcases pick_find (out := out) hinj hl hw hq hm with ⟨h1, h3⟩ | ⟨q1, y, q2, e, h1, h2, h3⟩
    · rw [hp] at h3; simp at h3
    · rw [hp] at h3
      injection h3 with h3
      subst h3
      rw [ih, e, owP_skip h1, owP_skip (fun z hz => by simp [h1 z hz])]
      show owP n (owS n (out ++ [x.nm]) x) q2 = owP n (owS n out x) q2
      have e1 : owS n (out ++ [x.nm]) x = out ++ [x.nm] := if_neg (fun h' => h'.2 (by simp))
      have e2 : owS n out x = out ++ [x.nm] := if_pos ⟨h, h2⟩
      rw [e1, e2]
/-- Turned to begin at the number. -/
theorem turn_lex {p : List Pl} {i : Nat} (hp : p.Pairwise (fun x y => x.t < y.t ∨ (x.t = y.t ∧ key x.nm ≤ key y.nm))) (hw : ∀ x ∈ p, 0 ≤ x.t ∧ x.t < 18446744073709551616) (ha : 0 ≤ at' ∧ at' < 18446744073709551616)
    (h1 : ∀ x ∈ p.take i, x.t < at') (h2 : ∀ x ∈ p.drop i, at' ≤ x.t) : (p.drop i ++ p.take i).Pairwise (lexLe key at') := by
  have hd : ∀ x ∈ p.drop i, distR at' x.t = x.t - at' := fun x hx => by
    have := h2 x hx
    have := hw x (List.mem_of_mem_drop hx)
    unfold distR
    omega
  have ht : ∀ x ∈ p.take i, distR at' x.t = x.t - at' + 18446744073709551616 := fun x hx => by
    have := h1 x hx
    have := hw x (List.mem_of_mem_take hx)
    unfold distR
    omega
  refine List.pairwise_append.2 ⟨?_, ?_, fun x hx y hy => ?_⟩
  · refine List.Pairwise.imp_of_mem (fun {x y} hx hy h => ?_) (hp.sublist (List.drop_sublist i p))
    unfold lexLe
    rw [hd x hx, hd y hy]
    omega
  · refine List.Pairwise.imp_of_mem (fun {x y} hx hy h => ?_) (hp.sublist (List.take_sublist i p))
    unfold lexLe
    rw [ht x hx, ht y hy]
    omega
  · unfold lexLe
    rw [hd x hx, ht y hy]
    have := hw x (List.mem_of_mem_drop hx)
    have := hw y (List.mem_of_mem_take hy)
    omega
end
end Go.Gh
/-
  The ring: a node's share, the program's way and the document's.
-/
namespace Go.Gh
set_option linter.unusedVariables false
set_option linter.unusedSimpArgs false
/-- The least distance of another token behind t. -/
def farS (t : Int) (far : Int) (y : Pl) : Int := if 0 < distR y.t t ∧ (far = 0 ∨ distR y.t t < far) then distR y.t t else far
def farF (l : List Pl) (t : Int) : Int := l.foldl (farS t) 0
def FarIs (l : List Pl) (t f : Int) : Prop := (f = 0 ∧ ∀ y ∈ l, distR y.t t = 0) ∨ (0 < f ∧ (∃ y ∈ l, distR y.t t = f) ∧ ∀ y ∈ l, 0 < distR y.t t → f ≤ distR y.t t)
theorem dist_nn (x y : Int) : 0 ≤ distR x y := by unfold distR; omega
theorem far_go (t : Int) : ∀ (l l0 : List Pl) (f : Int), FarIs l0 t f → FarIs (l0 ++ l) t (l.foldl (farS t) f)
  | [], l0, f, h => by rw [List.append_nil]; exact h
  | y :: l, l0, f, h => by
    have h2 : FarIs (l0 ++ [y]) t (farS t f y) := by
      have hd := dist_nn y.t t
      unfold farS
      rcases h with ⟨rfl, h0⟩ | ⟨h1, ⟨z, hz, hzf⟩, h3⟩
      · by_cases hp : 0 < distR y.t t
        · rw [if_pos ⟨hp, Or.inl rfl⟩]
          refine Or.inr ⟨hp, ⟨y, by simp, rfl⟩, fun z hz hzp => ?_⟩
          rcases List.mem_append.1 hz with hz | hz
          · have := h0 z hz; omega
          · have : z = y := by simpa using hz
            rw [this]; omega
        · rw [if_neg (fun h => hp h.1)]
          refine Or.inl ⟨rfl, fun z hz => ?_⟩
          rcases List.mem_append.1 hz with hz | hz
          · exact h0 z hz
          · have : z = y := by simpa using hz
            rw [this]; omega
      · by_cases hp : 0 < distR y.t t ∧ distR y.t t < f
        · rw [if_pos ⟨hp.1, Or.inr hp.2⟩]
          refine Or.inr ⟨hp.1, ⟨y, by simp, rfl⟩, fun z hz hzp => ?_⟩
          rcases List.mem_append.1 hz with hz | hz
          · have := h3 z hz hzp; omega
          · have : z = y := by simpa using hz
            rw [this]; omega
        · rw [if_neg (fun h => hp ⟨h.1, h.2.resolve_left (by omega)⟩)]
          refine Or.inr ⟨h1, ⟨z, by simp [hz], hzf⟩, fun u hu hup => ?_⟩
          rcases List.mem_append.1 hu with hu | hu
          · exact h3 u hu hup
          · have : u = y := by simpa using hu
            rw [this] at hup ⊢; omega
    have := far_go t l (l0 ++ [y]) (farS t f y) h2
    rw [List.append_assoc] at this
    exact this
theorem farF_is (l : List Pl) (t : Int) : FarIs l t (farF l t) := far_go t l [] 0 (Or.inl ⟨rfl, fun y hy => by simp at hy⟩)
theorem far_unique {l : List Pl} {t f g : Int} (h1 : FarIs l t f) (h2 : FarIs l t g) : f = g := by
  rcases h1 with ⟨rfl, a⟩ | ⟨a1, ⟨y, hy, hyf⟩, a2⟩
  · rcases h2 with ⟨rfl, _⟩ | ⟨b1, ⟨z, hz, hzg⟩, _⟩
    · rfl
    · have := a z hz; omega
  · rcases h2 with ⟨rfl, b⟩ | ⟨b1, ⟨z, hz, hzg⟩, b2⟩
    · have := b y hy; omega
    · have h3 := a2 z hz (by omega)
      have h4 := b2 y hy (by omega)
      omega
/-- The places without a token twice: each token's first owner. -/
structure Cpt (key : ByteArray → Int) (l c : List Pl) : Prop where
  asc : c.Pairwise (fun x y => x.t < y.t)
  sub : ∀ x ∈ c, x ∈ l ∧ ∀ y ∈ l, y.t = x.t → key x.nm ≤ key y.nm
  all : ∀ y ∈ l, ∃ x ∈ c, x.t = y.t
/-- The token ahead, round the ring. -/
def prevT (c : List Pl) (i : Nat) : Int := ((c[(i + c.length - 1) % c.length]?).map Pl.t).getD 0
theorem asc_lt {c : List Pl} (h : c.Pairwise (fun x y => x.t < y.t)) {i j : Nat} {x y : Pl} (hi : c[i]? = some x) (hj : c[j]? = some y) (hij : i < j) : x.t < y.t := by
  obtain ⟨h1, e1⟩ := List.getElem?_eq_some_iff.1 hi
  obtain ⟨h2, e2⟩ := List.getElem?_eq_some_iff.1 hj
  have := List.pairwise_iff_getElem.1 h i j h1 h2 hij
  rw [e1, e2] at this
  exact this
theorem prev_far {key : ByteArray → Int} {l c : List Pl} (h : Cpt key l c) (hw : ∀ x ∈ l, 0 ≤ x.t ∧ x.t < 18446744073709551616) {i : Nat} {x : Pl} (hi : c[i]? = some x) :
    distR (prevT c i) x.t = farF l x.t := by
  refine far_unique (l := l) (t := x.t) ?_ (farF_is l x.t)
  obtain ⟨hil, hie⟩ := List.getElem?_eq_some_iff.1 hi
  have hpl : (i + c.length - 1) % c.length < c.length := Nat.mod_lt _ (by omega)
  obtain ⟨p, hp⟩ : ∃ p, c[(i + c.length - 1) % c.length]? = some p := ⟨_, List.getElem?_eq_getElem hpl⟩
  have hpt : prevT c i = p.t := by unfold prevT; rw [hp]; rfl
  rw [hpt]
  have hxl := (h.sub x (List.mem_of_getElem? hi)).1
  have hpl2 := (h.sub p (List.mem_of_getElem? hp)).1
  have wx := hw x hxl
  have wp := hw p hpl2
  have hj : ∀ y ∈ l, ∃ (j : Nat) (z : Pl), c[j]? = some z ∧ z.t = y.t := fun y hy => by
    obtain ⟨z, hz, e⟩ := h.all y hy
    obtain ⟨j, hj⟩ := List.getElem?_of_mem hz
    exact ⟨j, z, hj, e⟩
  by_cases h1 : c.length = 1
  · have hi0 : i = 0 := by omega
    subst hi0
    have hp0 : (0 + c.length - 1) % c.length = 0 := by rw [h1]
    rw [hp0, hi] at hp
    injection hp with hp
    subst hp
    refine Or.inl ⟨by unfold distR; omega, fun y hy => ?_⟩
    obtain ⟨j, z, hz, e⟩ := hj y hy
    have hj0 : j = 0 := by have := (List.getElem?_eq_some_iff.1 hz).1; omega
    subst hj0
    rw [hi] at hz
    injection hz with hz
    subst hz
    unfold distR
    omega
  · by_cases hi0 : i = 0
    · subst hi0
      have hpe : (0 + c.length - 1) % c.length = c.length - 1 := by
        rw [Nat.zero_add, Nat.mod_eq_of_lt (by omega)]
      rw [hpe] at hp
      have hlt := asc_lt h.asc hi hp (by omega)
      have hd : distR p.t x.t = x.t - p.t + 18446744073709551616 := by unfold distR; omega
      rw [hd]
      refine Or.inr ⟨by omega, ⟨p, hpl2, hd⟩, fun y hy hyp => ?_⟩
      obtain ⟨j, z, hz, e⟩ := hj y hy
      have hjl := (List.getElem?_eq_some_iff.1 hz).1
      have wy := hw y hy
      have hzp : z.t ≤ p.t := by
        by_cases hjp : j = c.length - 1
        · subst hjp
          rw [hp] at hz
          injection hz with hz
          rw [hz]; omega
        · have := asc_lt h.asc hz hp (by omega); omega
      by_cases hj0 : j = 0
      · subst hj0
        rw [hi] at hz
        injection hz with hz
        subst hz
        unfold distR at hyp
        omega
      · have := asc_lt h.asc hi hz (by omega)
        unfold distR
        omega
    · have hpe : (i + c.length - 1) % c.length = i - 1 := by
        rw [show i + c.length - 1 = (i - 1) + c.length from by omega, Nat.add_mod_right, Nat.mod_eq_of_lt (by omega)]
      rw [hpe] at hp
      have hlt := asc_lt h.asc hp hi (by omega)
      have hd : distR p.t x.t = x.t - p.t := by unfold distR; omega
      rw [hd]
      refine Or.inr ⟨by omega, ⟨p, hpl2, hd⟩, fun y hy hyp => ?_⟩
      obtain ⟨j, z, hz, e⟩ := hj y hy
      have wy := hw y hy
      by_cases hji : j = i
      · subst hji
        rw [hi] at hz
        injection hz with hz
        subst hz
        unfold distR at hyp
        omega
      · by_cases hjl : j < i
        · have hzp : z.t ≤ p.t := by
            by_cases hjp : j = i - 1
            · subst hjp
              rw [hp] at hz
              injection hz with hz
              rw [hz]; omega
            · have := asc_lt h.asc hz hp (by omega); omega
          unfold distR
          omega
        · have := asc_lt h.asc hi hz (by omega)
          unfold distR
          omega
theorem asc_eq : ∀ {a b : List Pl}, a.Pairwise (fun x y => x.t < y.t) → b.Pairwise (fun x y => x.t < y.t) → (∀ x, x ∈ a ↔ x ∈ b) → a = b
  | [], [], _, _, _ => rfl
  | [], y :: b, _, _, h => by have := (h y).2 (by simp); simp at this
  | x :: a, [], _, _, h => by have := (h x).1 (by simp); simp at this
  | x :: a, y :: b, ha, hb, h => by
    obtain ⟨ha1, ha2⟩ := List.pairwise_cons.1 ha
    obtain ⟨hb1, hb2⟩ := List.pairwise_cons.1 hb
    have hxy : x = y := by
      rcases List.mem_cons.1 ((h x).1 (by simp)) with e | h1
      · exact e
      · rcases List.mem_cons.1 ((h y).2 (by simp)) with e | h2
        · exact e.symm
        · have := ha1 y h2
          have := hb1 x h1
          omega
    subst hxy
    have := asc_eq ha2 hb2 (fun z => by
      refine ⟨fun hz => ?_, fun hz => ?_⟩
      · rcases List.mem_cons.1 ((h z).1 (List.mem_cons_of_mem _ hz)) with e | h1
        · have := ha1 z hz; rw [e] at this; omega
        · exact h1
      · rcases List.mem_cons.1 ((h z).2 (List.mem_cons_of_mem _ hz)) with e | h1
        · have := hb1 z hz; rw [e] at this; omega
        · exact h1)
    rw [this]
/-- A sum that wraps. -/
def sumW (s : Int) (l : List Int) : Int := l.foldl (fun s d => (s + d) % 18446744073709551616) s
open Classical in
/-- The document's step: mine, others, sum. -/
noncomputable def shRS (l : List Pl) (ow : Int → ByteArray) (name : ByteArray) (st : Bool × Bool × Int) (x : Pl) : Bool × Bool × Int :=
  if ow x.t ≠ name then (st.1, true, st.2.2) else if x.nm ≠ name then st else (true, st.2.1, (st.2.2 + farF l x.t) % 18446744073709551616)
noncomputable def shR (l : List Pl) (ow : Int → ByteArray) (name : ByteArray) (m : List Pl) : Bool × Bool × Int := m.foldl (shRS l ow name) (false, false, 0)
noncomputable def shareR (l : List Pl) (ow : Int → ByteArray) (name : ByteArray) : Int := if (shR l ow name l).1 = true ∧ (shR l ow name l).2.1 = false then 18446744073709551615 else (shR l ow name l).2.2
open Classical in
/-- The program's step at the i-th place. -/
noncomputable def shPS (c : List Pl) (name : ByteArray) (st : Nat × Int) (i : Nat) : Nat × Int :=
  match c[i]? with
  | none => st
  | some x => if x.nm = name then (st.1 + 1, (st.2 + distR (prevT c i) x.t) % 18446744073709551616) else st
noncomputable def shP (c : List Pl) (name : ByteArray) (k : Nat) : Nat × Int := (List.range k).foldl (shPS c name) (0, 0)
theorem shP_succ (c : List Pl) (name : ByteArray) (k : Nat) : shP c name (k + 1) = shPS c name (shP c name k) k := by
  unfold shP
  rw [List.range_succ, List.foldl_append]
  rfl
noncomputable def shareP (c : List Pl) (name : ByteArray) : Int := if 0 < (shP c name c.length).1 ∧ (shP c name c.length).1 = c.length then 18446744073709551615 else (shP c name c.length).2
theorem sumW_app (s : Int) (a b : List Int) : sumW s (a ++ b) = sumW (sumW s a) b := by unfold sumW; rw [List.foldl_append]
open Classical in
theorem shP_is {l c : List Pl} {key : ByteArray → Int} (h : Cpt key l c) (hw : ∀ x ∈ l, 0 ≤ x.t ∧ x.t < 18446744073709551616) (name : ByteArray) : ∀ k, k ≤ c.length →
    shP c name k = (((c.take k).filter (fun x => decide (x.nm = name))).length, sumW 0 (((c.take k).filter (fun x => decide (x.nm = name))).map (fun x => farF l x.t)))
  | 0, _ => rfl
  | k + 1, hk => by
    have ih := shP_is h hw name k (by omega)
    obtain ⟨x, hx⟩ : ∃ x, c[k]? = some x := ⟨_, List.getElem?_eq_getElem (by omega)⟩
    have hf := prev_far h hw hx
    obtain ⟨h1, h2⟩ := List.getElem?_eq_some_iff.1 hx
    rw [shP_succ, ih, List.take_succ_eq_append_getElem h1, h2, List.filter_append]
    unfold shPS
    rw [hx]
    dsimp only
    by_cases hn : x.nm = name
    · rw [if_pos hn, hf]
      simp only [List.filter_cons, decide_eq_true hn, if_true, List.filter_nil, List.length_append, List.length_cons, List.length_nil, List.map_append, List.map_cons, List.map_nil, sumW_app]
      rfl
    · rw [if_neg hn]
      simp [hn]
open Classical in
theorem shR_is {l : List Pl} {ow : Int → ByteArray} {name : ByteArray} : ∀ (m : List Pl) (m0 : List Pl) (st : Bool × Bool × Int),
    st.1 = (m0.any fun x => decide (ow x.t = name) && decide (x.nm = name)) → st.2.1 = (m0.any fun x => decide (ow x.t ≠ name)) → st.2.2 = sumW 0 ((m0.filter (fun x => decide (ow x.t = name) && decide (x.nm = name))).map (fun x => farF l x.t)) →
    (m.foldl (shRS l ow name) st).1 = ((m0 ++ m).any fun x => decide (ow x.t = name) && decide (x.nm = name)) ∧ (m.foldl (shRS l ow name) st).2.1 = ((m0 ++ m).any fun x => decide (ow x.t ≠ name)) ∧
      (m.foldl (shRS l ow name) st).2.2 = sumW 0 (((m0 ++ m).filter (fun x => decide (ow x.t = name) && decide (x.nm = name))).map (fun x => farF l x.t))
  | [], m0, st, h1, h2, h3 => by rw [List.append_nil]; exact ⟨h1, h2, h3⟩
  | x :: m, m0, (a, b, s), h1, h2, h3 => by
    dsimp only at h1 h2 h3
    have := shR_is (l := l) (ow := ow) (name := name) m (m0 ++ [x]) (shRS l ow name (a, b, s) x) ?_ ?_ ?_
    · rw [List.append_assoc] at this
      exact this
    all_goals
      unfold shRS
      by_cases e1 : ow x.t = name
      · by_cases e2 : x.nm = name
        · rw [if_neg (fun h => h e1), if_neg (fun h => h e2)]
          simp [List.any_append, List.filter_append, sumW_app, h1, h2, h3, e1, e2, sumW]
        · rw [if_neg (fun h => h e1), if_pos e2]
          simp [List.any_append, List.filter_append, sumW_app, h1, h2, h3, e1, e2, sumW]
      · rw [if_pos e1]
        simp [List.any_append, List.filter_append, sumW_app, h1, h2, h3, e1, sumW]
open Classical in
/-- Both ways tell the same share. -/
theorem share_same {key : ByteArray → Int} {l c : List Pl} {ow : Int → ByteArray} {name : ByteArray} (h : Cpt key l c) (hw : ∀ x ∈ l, 0 ≤ x.t ∧ x.t < 18446744073709551616)
    (hl : l.Pairwise (fun x y => key x.nm < key y.nm ∨ (x.nm = y.nm ∧ x.t < y.t))) (how : ∀ x ∈ l, ∃ z ∈ c, z.t = x.t ∧ ow x.t = z.nm) : shareP c name = shareR l ow name := by
  have hP := shP_is h hw name c.length (Nat.le_refl _)
  rw [List.take_length] at hP
  obtain ⟨r1, r2, r3⟩ := shR_is (l := l) (ow := ow) (name := name) l [] (false, false, 0) rfl rfl rfl
  rw [List.nil_append] at r1 r2 r3
  have huniq : ∀ x ∈ c, ∀ y ∈ c, x.t = y.t → x = y := fun x hx y hy e => by
    obtain ⟨i, hi⟩ := List.getElem?_of_mem hx
    obtain ⟨j, hj⟩ := List.getElem?_of_mem hy
    rcases Nat.lt_trichotomy i j with h1 | h1 | h1
    · have := asc_lt h.asc hi hj h1; omega
    · subst h1; rw [hi] at hj; injection hj
    · have := asc_lt h.asc hj hi h1; omega
  have hoc : ∀ x ∈ c, ow x.t = x.nm := fun x hx => by
    obtain ⟨z, hz, e1, e2⟩ := how x (h.sub x hx).1
    rw [e2, huniq z hz x hx e1]
  have heq : l.filter (fun x => decide (ow x.t = name) && decide (x.nm = name)) = c.filter (fun x => decide (x.nm = name)) := by
    refine asc_eq ?_ (h.asc.filter _) (fun x => ?_)
    · refine List.Pairwise.imp_of_mem (fun {x y} hx hy h' => ?_) (hl.filter _)
      have e1 := (List.mem_filter.1 hx).2
      have e2 := (List.mem_filter.1 hy).2
      simp only [Bool.and_eq_true, decide_eq_true_eq] at e1 e2
      rcases h' with h' | h'
      · rw [e1.2, e2.2] at h'; omega
      · exact h'.2
    · rw [List.mem_filter, List.mem_filter]
      simp only [Bool.and_eq_true, decide_eq_true_eq]
      refine ⟨fun ⟨h1, h2, h3⟩ => ?_, fun ⟨h1, h2⟩ => ⟨(h.sub x h1).1, by rw [hoc x h1]; exact h2, h2⟩⟩
      obtain ⟨z, hz, e1, e2⟩ := how x h1
      have : z = x := by
        cases z; cases x
        simp_all
      rw [← this]
      exact ⟨hz, by rw [this]; exact h3⟩
  rw [heq] at r3
  have ho : (shR l ow name l).2.1 = false ↔ (c.filter (fun x => decide (x.nm = name))).length = c.length := by
    show (l.foldl (shRS l ow name) (false, false, 0)).2.1 = false ↔ _
    rw [r2, List.any_eq_false, List.length_filter_eq_length_iff]
    refine ⟨fun h' x hx => ?_, fun h' x hx => ?_⟩
    · have := h' x (h.sub x hx).1
      rw [hoc x hx] at this
      simpa using this
    · obtain ⟨z, hz, e1, e2⟩ := how x hx
      have := h' z hz
      rw [e2]
      simpa using this
  have hmn : (shR l ow name l).1 = true ↔ 0 < (c.filter (fun x => decide (x.nm = name))).length := by
    show (l.foldl (shRS l ow name) (false, false, 0)).1 = true ↔ _
    rw [r1, ← heq, List.any_eq_true, List.length_pos_iff_exists_mem]
    exact ⟨fun ⟨x, h1, h2⟩ => ⟨x, List.mem_filter.2 ⟨h1, h2⟩⟩, fun ⟨x, h1⟩ => ⟨x, (List.mem_filter.1 h1).1, (List.mem_filter.1 h1).2⟩⟩
  unfold shareP shareR
  rw [hP]
  dsimp only
  have hs : (shR l ow name l).2.2 = sumW 0 ((c.filter (fun x => decide (x.nm = name))).map (fun x => farF l x.t)) := r3
  rw [hs]
  by_cases hc : 0 < (c.filter (fun x => decide (x.nm = name))).length ∧ (c.filter (fun x => decide (x.nm = name))).length = c.length
  · rw [if_pos hc, if_pos ⟨hmn.2 hc.1, ho.2 hc.2⟩]
  · rw [if_neg hc, if_neg (fun h' => hc ⟨hmn.1 h'.1, ho.1 h'.2⟩)]
end Go.Gh
/-
  The ring: the walks of Has and find.
-/
namespace Go.Proofs.Ytcljeedmiobepaa.Rng
open Go.RowKit Go.Gh Go.Proofs.Ytcljeedmiobepaa.Nod
set_option linter.unusedVariables false
theorem toList_inj {a b : ByteArray} (h : a.toList = b.toList) : a = b := by
  rw [ByteArray.toList_eq, ByteArray.toList_eq] at h
  cases a
  cases b
  simp only [ByteArray.mk.injEq]
  exact Array.toList_inj.1 h
/-- Is the name among them? -/
def hasN (L : List Nd) (nm : ByteArray) : Bool := L.any fun x => x.nm.toList == nm.toList
theorem hasN_yes {L : List Nd} {nm : ByteArray} {x : Nd} (hx : x ∈ L) (h : x.nm.toList = nm.toList) : hasN L nm = true := List.any_eq_true.2 ⟨x, hx, beq_iff_eq.2 h⟩
theorem hasN_no {L : List Nd} {nm : ByteArray} (h : ∀ x ∈ L, ¬ x.nm.toList = nm.toList) : hasN L nm = false := List.any_eq_false.2 fun x hx he => h x hx (beq_iff_eq.1 he)
set_option maxRecDepth 100000 in
theorem has_any (v : Value) (L : List Nd) (nm : ByteArray) (w : World) (hs : Sp NdR 2 w v L) : Calls Try.prog 69 #[v, .string nm] w fun e w' => e = .returned (.bool (hasN L nm)) ∧ Below w.heap.size w w' := by
  obtain ⟨n, hn⟩ : ∃ n, L.length = n := ⟨_, rfl⟩
  obtain ⟨ao, c, rfl, hnc, hc⟩ := hs.shapeN hn
  have HN := Lib.hid hn
  have HS := Lib.hid hs
  obtain ⟨F, hF⟩ : ∃ F, hasN L nm = F := ⟨_, rfl⟩
  have HF := Lib.hid hF
  rw [hF]
  clear hn hs hF
  go_enter Try.func69, Try.ntmps69
  go_wp2_with fail
  go_loopw [4, 9] (fun r i wr => ∃ k : Nat, k ≤ n ∧ i = .int .i64 k ∧ r = .bool false ∧ Hid (∀ x ∈ L.take k, ¬ x.nm.toList = nm.toList) ∧ Below w.heap.size w wr) (fun _ i _ => n - (intOf i).toNat)
  case atStart => exact ⟨0, Nat.zero_le _, rfl, rfl, Lib.hid (fun x hx => by simp at hx), Below.refl _ _⟩
  case round =>
    obtain ⟨k, hk, rfl, rfl, HT, hbr⟩ := hrel
    by_cases hlt : k < n
    · obtain ⟨x, hx⟩ : ∃ x, L[k]? = some x := ⟨_, List.getElem?_eq_getElem (by rw [HN.out]; exact hlt)⟩
      obtain ⟨b, off, cs, rfl, ⟨t', rfl, htk⟩, _, hck⟩ := (HS.out.below ndR_mono hbr).get hx
      have c0 := hck 0 _ rfl
      have c1 := hck 1 _ rfl
      rw [Nat.add_zero] at c0
      obtain ⟨ta, tc, rfl, -, -, -⟩ := htk.1.shape
      have HX := Lib.hid hx
      have hBa := hbr.alloc hbr.size (Obj.cells #[.string x.nm, .slice ta x.tk.length tc] 25)
      clear hck htk hx
      by_cases he : x.nm.toList = nm.toList
      · have h1 : F = true := by rw [← HF.out]; exact hasN_yes (List.mem_of_getElem? HX.out) he
        subst h1
        have t1 : (x.nm.toList == nm.toList) = true := beq_iff_eq.2 he
        go_wp2_with fail
        go_ret
        exact ⟨rfl, hBa⟩
      · have t1 : (x.nm.toList == nm.toList) = false := by rw [beq_eq_false_iff_ne]; exact he
        have HT2 : Hid (∀ y ∈ L.take (k + 1), ¬ y.nm.toList = nm.toList) := Lib.hid (fun y hy => by
          obtain ⟨h1, h2⟩ := List.getElem?_eq_some_iff.1 HX.out
          rw [List.take_succ_eq_append_getElem h1, h2] at hy
          rcases List.mem_append.1 hy with hy | hy
          · exact HT.out y hy
          · have : y = x := by simpa using hy
            rw [this]; exact he)
        go_wp2_with fail
        go_roundw
        case rel => exact ⟨k + 1, by omega, by go_num, rfl, HT2, hBa⟩
        case measure => simp [intOf]; omega
    · obtain rfl : k = n := by omega
      have h1 : F = false := by
        rw [← HF.out]
        refine hasN_no (fun x hx => HT.out x ?_)
        rw [List.take_of_length_le (Nat.le_of_eq HN.out)]
        exact hx
      subst h1
      go_wp2_with fail
      go_ret
      exact ⟨rfl, hbr⟩
/-- Where the name stands. -/
def IdxIs (L : List Nd) (nm : ByteArray) (r : Int) : Prop := (r = -1 ∧ ∀ x ∈ L, ¬ x.nm.toList = nm.toList) ∨ ∃ (k : Nat) (x : Nd), r = k ∧ L[k]? = some x ∧ x.nm.toList = nm.toList ∧ ∀ y ∈ L.take k, ¬ y.nm.toList = nm.toList
set_option maxRecDepth 100000 in
theorem findlit_any (x : ByteArray) (t : Value) (b : Nat) (nm : ByteArray) (w : World) (hb : w.cell? ⟨b, 0, none⟩ = some (.string nm)) (ht : ∃ ao n c, t = .slice ao n c) :
    Calls Try.prog 174 #[.agg #[.string x, t], .pointer (some ⟨b, 0, none⟩)] w fun e w' => e = .returned (.bool (x.toList == nm.toList)) ∧ Below w.heap.size w w' := by
  obtain ⟨ao, n, c, rfl⟩ := ht
  have hlt := cell_lt hb
  have hb1 : (w.alloc (Obj.cells #[.string x, .slice ao n c] 25)).cell? ⟨b, 0, none⟩ = some (.string nm) := (((Below.refl w.heap.size w).alloc (Nat.le_refl _) _).cell (p := ⟨b, 0, none⟩) hlt).trans hb
  go_enter Try.func174, Try.ntmps174
  go_wp2_with fail
  go_ret
  exact ⟨rfl, (Below.refl _ _).alloc (Nat.le_refl _) _⟩
end Go.Proofs.Ytcljeedmiobepaa.Rng
/-
  The ring: the walks of IndexFunc and find.
-/
namespace Go.Proofs.Ytcljeedmiobepaa.Rng
open Go.RowKit Go.Gh Go.Proofs.Ytcljeedmiobepaa.Nod
set_option linter.unusedVariables false
def IPost (L : List Nd) (nm : ByteArray) (w : World) (e : Ending) (w' : World) : Prop := ∃ r, e = .returned (.int .i64 r) ∧ IdxIs L nm r ∧ Below w.heap.size w w'
set_option maxRecDepth 100000 in
theorem index_any (v : Value) (L : List Nd) (b : Nat) (nm : ByteArray) (w : World) (hs : Sp NdR 2 w v L) (hb : w.cell? ⟨b, 0, none⟩ = some (.string nm)) :
    Calls Try.prog 173 #[v, .func (.func 174) #[] #[.pointer (some ⟨b, 0, none⟩)]] w (IPost L nm w) := by
  obtain ⟨n, hn⟩ : ∃ n, L.length = n := ⟨_, rfl⟩
  obtain ⟨ao, c, rfl, hnc, hc⟩ := hs.shapeN hn
  have HN := Lib.hid hn
  have HS := Lib.hid hs
  have HB := Lib.hid hb
  clear hn hs hb
  go_enter Try.func173, Try.ntmps173
  go_wp2_with fail
  go_loopw [4, 8] (fun _ i wr => ∃ k : Nat, k ≤ n ∧ i = .int .i64 k ∧ Hid (∀ x ∈ L.take k, ¬ x.nm.toList = nm.toList) ∧ Below w.heap.size w wr) (fun _ i _ => n - (intOf i).toNat)
  case atStart => exact ⟨0, Nat.zero_le _, rfl, Lib.hid (fun x hx => by simp at hx), Below.refl _ _⟩
  case round =>
    obtain ⟨k, hk, rfl, HT, hbr⟩ := hrel
    by_cases hlt : k < n
    · obtain ⟨x, hx⟩ : ∃ x, L[k]? = some x := ⟨_, List.getElem?_eq_getElem (by rw [HN.out]; exact hlt)⟩
      obtain ⟨b', off, cs, rfl, ⟨t', rfl, htk⟩, _, hck⟩ := (HS.out.below ndR_mono hbr).get hx
      have c0 := hck 0 _ rfl
      have c1 := hck 1 _ rfl
      rw [Nat.add_zero] at c0
      obtain ⟨ta, tc, rfl, -, -, -⟩ := htk.1.shape
      have HX := Lib.hid hx
      have HB1 : Hid (wr.cell? ⟨b, 0, none⟩ = some (.string nm)) := Lib.hid ((hbr.cell (p := ⟨b, 0, none⟩) (cell_lt HB.out)).trans HB.out)
      have HBR := Lib.hid hbr
      clear hck htk hx hbr
      go_wp2_with fail
      refine (findlit_any x.nm _ b nm _ HB1.out ⟨_, _, _, rfl⟩).mono ?_
      rintro e w2 ⟨rfl, hb2⟩
      have hbr2 := HBR.out.trans (hb2.mono HBR.out.size)
      by_cases he : x.nm.toList = nm.toList
      · have t1 : (x.nm.toList == nm.toList) = true := beq_iff_eq.2 he
        go_wp2_with fail
        go_ret
        exact ⟨_, rfl, Or.inr ⟨k, x, rfl, HX.out, he, HT.out⟩, hbr2⟩
      · have t1 : (x.nm.toList == nm.toList) = false := by rw [beq_eq_false_iff_ne]; exact he
        have HT2 : Hid (∀ y ∈ L.take (k + 1), ¬ y.nm.toList = nm.toList) := Lib.hid (fun y hy => by
          obtain ⟨h1, h2⟩ := List.getElem?_eq_some_iff.1 HX.out
          rw [List.take_succ_eq_append_getElem h1, h2] at hy
          rcases List.mem_append.1 hy with hy | hy
          · exact HT.out y hy
          · have : y = x := by simpa using hy
            rw [this]; exact he)
        go_wp2_with fail
        go_roundw
        case rel => exact ⟨k + 1, by omega, by go_num, HT2, hbr2⟩
        case measure => simp [intOf]; omega
    · obtain rfl : k = n := by omega
      go_wp2_with fail
      go_ret
      refine ⟨_, rfl, Or.inl ⟨rfl, fun x hx => HT.out x ?_⟩, hbr⟩
      rw [List.take_of_length_le (Nat.le_of_eq HN.out)]
      exact hx
set_option maxRecDepth 100000 in
theorem find_any (v : Value) (L : List Nd) (nm : ByteArray) (w : World) (hs : Sp NdR 2 w v L) : Calls Try.prog 127 #[v, .string nm] w (IPost L nm w) := by
  have hmf : ∀ (fn : Fn) (first cap : Array Value) (w : World), (Instr.makeFunc fn first cap).run Try.prog w = .ok (.func fn first cap) w := fun _ _ _ _ => rfl
  obtain ⟨ao, c, rfl, -, -⟩ := hs.shape
  have HS := Lib.hid hs
  have hba : Below w.heap.size w (w.alloc (.cells #[.string nm] 9)) := (Below.refl _ _).alloc (Nat.le_refl _) _
  have hx := (row_cell 0 (.string nm) (heap_alloc_new w (.cells #[.string nm] 9)) rfl).1
  have HC := Lib.hid (index_any _ L w.heap.size nm _ (HS.out.below ndR_mono hba) hx)
  have HBA := Lib.hid hba
  clear hs hba hx
  go_enter Try.func127, Try.ntmps127
  go_wp2_with fail
  refine HC.out.mono ?_
  rintro e w2 ⟨r, rfl, hr, hb2⟩
  have HR := Lib.hid hr
  clear hr
  go_wp2_with fail
  go_ret
  exact ⟨r, rfl, HR.out, HBA.out.trans (hb2.mono HBA.out.size)⟩
end Go.Proofs.Ytcljeedmiobepaa.Rng
