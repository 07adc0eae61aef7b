/-
  Gossip: how what was seen reads; the walk of Digest.
-/
import Derived.Test.YtcljeedmiobepaaClm1
import Derived.Test.YtcljeedmiobepaaClRing
import Derived.Test.YtcljeedmiobepaaGosLaw2
import Derived.Test.YtcljeedmiobepaaBoxes
namespace Go.Proofs.Ytcljeedmiobepaa.Gos
open Go.RowKit Go.Gh Go.WideShapes Go.ChangeShapes Go.ChangeAt Go.Deep Go.Proofs.Ytcljeedmiobepaa.Nod
set_option linter.unusedVariables false
def SnOk (x : Sn) : Prop := x.nm.size ≤ 9223372036854775807 ∧ (Lit.int .i64 x.ver).wf = true
def SnR (_ : World) (x : Sn) (c : List Value) : Prop := c = [.string x.nm, .int .i64 x.ver] ∧ SnOk x
theorem snR_mono : Mono SnR := fun w w' a c h _ => h
theorem snR_grow {T : TypeId} {k B : Nat} : Grow SnR T k B := fun w w' a c u m us h _ _ => h
theorem infoSn : (Try.prog.info? 47).map (fun i => (i.zero, i.size, i.bytes)) = some (some (.agg #[.string ByteArray.empty, .int .i64 0]), 2, 24) := by kernel_rfl
theorem elSn : Elem Try.prog 40 47 2 24 := elem_of Try.underlying40 infoSn rfl (by decide)
def IsSeens (w : World) (v : Value) : Prop := ∃ d, Sp SnR 2 w v d
def Cl64s (L : List Cl) : Prop := ∀ c ∈ L, (Lit.int .i64 c.ver).wf = true
def IsClaims64 (w : World) (v : Value) : Prop := ∃ L, Sp ClR 4 w v L ∧ Cl64s L ∧ L.length * 56 ≤ 140737488355328
section
variable {H : Type} {enc : TypeId × Value → H} {W : World} {base b0 : Nat} {r : Reach} {spare : Nat → Bool} {held : Bool} {v : Value} {d : DataW H} {ps : List MemPlace}
theorem kSn : Try.prog.cellsOf 47 = 2 := by kernel_rfl
theorem trod_seen {fuel : Nat} {c0 c1 : Value} {x : DataW H × List MemPlace} (h : DataW.trod enc Try.prog W base spare held fuel 47 [c0, c1] = some x) : ∃ y : Sn, SnR W y [c0, c1] := by
  obtain ⟨ys, n2, _, _, _, hyl, hfy⟩ := DataW.trod_struct Try.underlying47 h
  obtain ⟨k1, k2, k3, k4, k5, k6⟩ := kCl
  have hys : ys.length = 2 := hyl
  have g0 : DataW.trod enc Try.prog W base spare held n2 9 (([c0, c1].drop 0).take (Try.prog.cellsOf 9)) = ys[0]? := hfy 0 _ rfl
  have g1 : DataW.trod enc Try.prog W base spare held n2 2 (([c0, c1].drop 1).take (Try.prog.cellsOf 2)) = ys[1]? := hfy 1 _ rfl
  rw [k5] at g0
  rw [k3] at g1
  simp only [List.drop, List.take] at g0 g1
  rw [List.getElem?_eq_getElem (by rw [hys]; decide)] at g0 g1
  obtain ⟨s, e0, _, hsz⟩ := DataW.trod_string Try.underlying9 g0
  obtain ⟨z1, e1, _, w1⟩ := DataW.trod_int Try.underlying2 g1
  have e0' : c0 = .string s := by simpa using e0
  have e1' : c1 = .int .i64 z1 := by simpa using e1
  exact ⟨⟨s, z1⟩, by rw [e0', e1'], by unfold maxLen at hsz; exact hsz, w1⟩
set_option maxRecDepth 100000 in
theorem isSeens_of (hv : Value.okWide Try.prog W r b0 40 v) (hd : DataW.Trod enc Try.prog W base spare held 40 v d ps) (hs : ∀ n ∈ d.weights Try.prog 40, n ≤ reachBytes) : IsSeens W v := by
  obtain ⟨a0, l0, c0, rfl⟩ := okWide_slice Try.underlying40 hv
  obtain ⟨fuel, hf⟩ := hd
  have hf' : DataW.trod enc Try.prog W base spare held fuel 40 [.slice a0 l0 c0] = some (d, ps) := by simpa [Value.cells] using hf
  obtain ⟨L, h, _⟩ := sp_of (R := SnR) inferInstance Try.underlying40 kSn (by decide) (fun fuel cs x h1 h2 => by
    obtain ⟨c0, c1, rfl⟩ := two h2
    exact trod_seen h1) hf'
  exact ⟨L, h⟩
def ClR64 (w : World) (x : Cl) (c : List Value) : Prop := ClR w x c ∧ (Lit.int .i64 x.ver).wf = true
theorem trod_claim64 {fuel : Nat} {c0 c1 c2 c3 : Value} {x : DataW H × List MemPlace} (h : DataW.trod enc Try.prog W base spare held fuel 27 [c0, c1, c2, c3] = some x) : ∃ c : Cl, ClR64 W c [c0, c1, c2, c3] := by
  obtain ⟨xs, n', _, _, hlen, hxl, hfl⟩ := DataW.trod_struct Try.underlying27 h
  obtain ⟨k1, k2, k3, k4, k5, k6⟩ := kCl
  have hxs : xs.length = 3 := hxl
  have f0 : DataW.trod enc Try.prog W base spare held n' 2 (([c0, c1, c2, c3].drop 0).take (Try.prog.cellsOf 2)) = xs[0]? := hfl 0 _ rfl
  rw [k3] at f0
  simp only [List.drop, List.take] at f0
  rw [List.getElem?_eq_getElem (by rw [hxs]; decide)] at f0
  obtain ⟨z0, e0, _, w0⟩ := DataW.trod_int Try.underlying2 f0
  have e0' : c0 = .int .i64 z0 := by simpa using e0
  obtain ⟨c, t, hc, ht⟩ := trod_claim h
  refine ⟨c, ⟨t, hc, ht⟩, ?_⟩
  have : c0 = .int .i64 c.ver := by
    have := congrArg (fun l => l[0]?) hc
    simpa using this
  rw [e0'] at this
  have h3 : z0 = c.ver := by simpa using this
  have h4 : ∀ z, z0 = z → (Lit.int .i64 z).wf = true := fun z hz => hz ▸ w0
  exact h4 _ h3
theorem bytesCl : Try.prog.bytesOf 27 = 56 := by kernel_rfl
set_option maxRecDepth 100000 in
theorem isClaims64_of (hv : Value.okWide Try.prog W r b0 22 v) (hd : DataW.Trod enc Try.prog W base spare held 22 v d ps) (hs : ∀ n ∈ d.weights Try.prog 22, n ≤ reachBytes) : IsClaims64 W v := by
  obtain ⟨a0, l0, c0, rfl⟩ := okWide_slice Try.underlying22 hv
  obtain ⟨fuel, hf⟩ := hd
  have hf' : DataW.trod enc Try.prog W base spare held fuel 22 [.slice a0 l0 c0] = some (d, ps) := by simpa [Value.cells] using hf
  obtain ⟨L, h, _, hb⟩ := sp_of (R := ClR64) inferInstance Try.underlying22 kCl.1 (by decide) (fun fuel cs x h1 h2 => by
    obtain ⟨c0, c1, c2, c3, rfl⟩ := four h2
    exact trod_claim64 h1) hf'
  have hb := hb hs
  rw [bytesCl] at hb
  have h1 : reachBytes ≤ 140737488355328 := by decide
  obtain ⟨P, h2, h3, h4, h5⟩ := h
  refine ⟨L, ⟨P, h2, h3, fun q hq => (h4 q hq).1, h5⟩, ?_, by omega⟩
  intro c hc
  rw [← h2] at hc
  obtain ⟨q, hq, rfl⟩ := List.mem_map.1 hc
  exact (h4 q hq).2
end
theorem dig_take {L : List Cl} {k : Nat} {x : Cl} (h : L[k]? = some x) : digF (L.take (k + 1)) = digF (L.take k) ++ [⟨x.nm, x.ver⟩] := by
  obtain ⟨h1, h2⟩ := List.getElem?_eq_some_iff.1 h
  unfold digF
  rw [List.take_succ_eq_append_getElem h1, h2, List.map_append]
  rfl
theorem dig_len (L : List Cl) (k : Nat) (hk : k ≤ L.length) : (digF (L.take k)).length = k := by
  unfold digF
  rw [List.length_map, List.length_take, Nat.min_eq_left hk]
noncomputable def clDigest (L : List Cl) : List Sn × Int := if claimsF L = 0 then (digF L, 0) else ([], claimsF L)
def SnPost (w : World) (r : List Sn × Int) (e : Ending) (w' : World) : Prop := ∃ v', e = .returned (.tuple #[v', .int .i64 r.2]) ∧ Ow SnR 2 47 w.heap.size w' v' r.1 ∧ Below w.heap.size w w'
set_option maxHeartbeats 4000000 in
set_option maxRecDepth 100000 in
theorem digest_any (v : Value) (L : List Cl) (w : World) (hs : Sp ClR 4 w v L) (h64 : Cl64s L) : Calls Try.prog 24 #[v] w (SnPost w (clDigest L)) := by
  obtain ⟨ao, c, rfl, hnc, hc⟩ := hs.shape
  obtain ⟨n, hn⟩ : ∃ n, L.length = n := ⟨_, rfl⟩
  rw [hn] at hs hnc ⊢
  have HN := Lib.hid hn
  have HS := Lib.hid hs
  have H64 := Lib.hid h64
  obtain ⟨E, hE⟩ : ∃ E, claimsF L = E := ⟨_, rfl⟩
  have HE := Lib.hid hE
  obtain ⟨R, hR⟩ : ∃ R, clDigest L = R := ⟨_, rfl⟩
  rw [hR]
  have HR := Lib.hid hR
  clear hn hs hE hR h64
  by_cases hz : E = 0
  case neg =>
    have HF : Hid (R = ([], E)) := Lib.hid (by rw [← HR.out]; unfold clDigest; rw [HE.out, if_neg hz])
    have t1 : (E != 0) = true := by rw [bne_iff_ne]; exact hz
    clear hz
    go_enter Try.func24, Try.ntmps24
    go_wp2_with (go_at_call 20; refine (clcheck_any _ L _ HS.out).mono ?_; rw [HE.out]; rintro e w1 ⟨rfl, hb1⟩)
    go_ret2
    rw [HF.out]
    exact ⟨_, rfl, Ow.nil, hb1⟩
  subst hz
  have hn20 : n ≤ 20 := by have := (claims_zero HE.out).1; rw [HN.out] at this; exact this
  have HNM : Hid (∀ c ∈ L, c.nm.size ≤ 20) := Lib.hid (fun c hc => (node_zero ((claims_zero HE.out).2.1 c hc).1).2.1)
  have HF : Hid (R = (digF L, 0)) := Lib.hid (by rw [← HR.out]; unfold clDigest; rw [HE.out, if_pos rfl])
  go_enter Try.func24, Try.ntmps24
  go_wp2_with (go_at_call 20; refine (clcheck_any _ L _ HS.out).mono ?_; rw [HE.out]; rintro e w1 ⟨rfl, hb1⟩)
  go_loopw [5, 15] (fun u i wr => ∃ (k : Nat), k ≤ n ∧ i = .int .i64 k ∧ Hid (Ow SnR 2 47 w.heap.size wr u (digF (L.take k))) ∧ Below w.heap.size w wr) (fun _ i _ => n - (intOf i).toNat)
  case atStart => exact ⟨0, Nat.zero_le _, rfl, Lib.hid Ow.nil, hb1⟩
  case round =>
    obtain ⟨k, hk, rfl, HO, hbel⟩ := hrel
    have hsz := hbel.size
    by_cases hlt : k < n
    case neg =>
      obtain rfl : k = n := by omega
      have HO2 : Hid (Ow SnR 2 47 w.heap.size wr u5 (digF L)) := Lib.hid (by have := HO.out; rwa [List.take_of_length_le (by rw [HN.out]; exact Nat.le_refl _)] at this)
      go_wp2_with fail
      go_ret2
      rw [HF.out]
      exact ⟨_, rfl, HO2.out, hbel⟩
    obtain ⟨x, hx⟩ : ∃ x, L[k]? = some x := ⟨_, List.getElem?_eq_getElem (by rw [HN.out]; exact hlt)⟩
    have hx20 : x.nm.size ≤ 20 := HNM.out x (List.mem_of_getElem? hx)
    have HX64 : Hid ((Lit.int .i64 x.ver).wf = true) := Lib.hid (H64.out x (List.mem_of_getElem? hx))
    obtain ⟨b, off, cs, rfl, ⟨t, rfl, htx⟩, _, hck⟩ := (HS.out.below clR_mono hbel).get hx
    have HDT := Lib.hid (dig_take hx)
    have HPL : Hid ((digF (L.take k)).length = k) := Lib.hid (dig_len L k (by rw [HN.out]; exact hk))
    have c0 := hck 0 _ rfl
    have c1 := hck 1 _ rfl
    have c2 := hck 2 _ rfl
    have c3 := hck 3 _ rfl
    rw [Nat.add_zero] at c0
    obtain ⟨ta, tc, rfl, -, -, -⟩ := htx.1.shape
    obtain ⟨uo, uc, rfl, hu1, hu2⟩ := Sp.shapeN HO.out.sp HPL.out
    obtain ⟨P, hP1, hP2, hP3, hP4⟩ := HO.out
    rw [HPL.out] at hP4
    have HPP := Lib.hid (And.intro hP1 (And.intro hP2 hP3))
    have HOW := Lib.hid hP4
    clear hck hx htx hP1 hP2 hP3 hP4
    go_upto_region 8 with (fail)
    obtain ⟨wA, hwA⟩ : ∃ wA, wA = wr.alloc (Obj.cells #[.int .i64 x.ver, .int .i64 x.st, .string x.nm, .slice ta x.tk.length tc] 27) := ⟨_, rfl⟩
    have hbox : wA.heap[wr.heap.size]? = some (.cells #[.int .i64 x.ver, .int .i64 x.st, .string x.nm, .slice ta x.tk.length tc] 27 (0, 0)) := by rw [hwA]; exact heap_alloc_new wr _
    have hbA : Below wr.heap.size wr wA := by rw [hwA]; exact (Below.refl _ _).alloc (Nat.le_refl _) _
    rw [← hwA]
    have HBA := Lib.hid (hbel.trans (hbA.mono hsz))
    have hO4 := own_below HOW.out hbA
    obtain ⟨⟨d0, d1, d2, d3⟩, -⟩ := bx4 hbox
    generalize wr.heap.size = bx at *
    clear hwA hbox hbA c0 c1 c2 c3
    go_wp2_with (at_builtin; refine append1 [.string x.nm, .int .i64 x.ver] elSn rfl _ _ rfl hO4 HBA.out HBA.out.size rfl rfl rfl (by intro x hx; simp at hx; rcases hx with rfl | rfl <;> rfl) ?c4 ?c5 ?_)
    case c4 => omega
    case c5 => omega
    intro v5 w5 hown5 hbel5 hgr5
    have HON : Hid (Ow SnR 2 47 w.heap.size w5 v5 (digF (L.take (k + 1)))) := Lib.hid (by
      rw [HDT.out]
      have hp3 : ∀ q ∈ P, SnR wA q.1 q.2 := HPP.out.2.2
      exact Ow.snoc snR_grow HPP.out.1 HPP.out.2.1 hp3 hO4 HPL.out.symm hgr5 hown5 rfl ⟨rfl, by show x.nm.size ≤ _; omega, HX64.out⟩)
    have HB5 := Lib.hid hbel5
    obtain ⟨vo, vc, rfl, -, -, -⟩ := own_shape hown5
    clear hO4 hown5 hgr5 hbel5
    go_wp2_with fail
    go_roundw
    case rel => exact ⟨k + 1, by omega, by go_num, HON, HB5.out⟩
    case measure => simp [intOf]; omega
end Go.Proofs.Ytcljeedmiobepaa.Gos
