/-
  The walk of claim.Ring; a claim that is handed in by value.
-/
import Derived.Test.YtcljeedmiobepaaRn4
import Derived.Test.YtcljeedmiobepaaRn8
import Derived.Test.YtcljeedmiobepaaRn10
import Derived.Laws.Cover1
import Derived.IntWalk
namespace Go.Proofs.Ytcljeedmiobepaa.Nod
open Go.RowKit Go.Gh Go.WideShapes Go.ChangeShapes Go.ChangeAt Go.Deep
set_option linter.unusedVariables false
def IsClaim (w : World) (v : Value) : Prop := ∃ x, ClV w v x
section
variable {H : Type} {enc : TypeId × Value → H} {W : World} {base b0 : Nat} {r : Reach} {spare : Nat → Bool} {held : Bool} {v : Value} {d : DataW H} {ps : List MemPlace}
set_option maxRecDepth 100000 in
theorem isClaim_of (hv : Value.okWide Try.prog W r b0 27 v) (hd : DataW.Trod enc Try.prog W base spare held 27 v d ps) (hs : ∀ n ∈ d.weights Try.prog 27, n ≤ reachBytes) : IsClaim W v := by
  obtain ⟨cs, rfl, hsz⟩ := okWide_struct Try.underlying27 hv
  obtain ⟨fuel, hf⟩ := hd
  rw [kCl.1] at hsz
  have hf' : DataW.trod enc Try.prog W base spare held fuel 27 cs.toList = some (d, ps) := by simpa [Value.cells] using hf
  obtain ⟨c0, c1, c2, c3, e⟩ := four (c := cs.toList) (by simpa using hsz)
  rw [e] at hf'
  obtain ⟨x, t, e2, ht⟩ := trod_claim hf'
  have : cs = #[.int .i64 x.ver, .int .i64 x.st, .string x.nm, t] := by
    rw [← e] at e2
    have := congrArg List.toArray e2
    simpa using this
  exact ⟨x, t, by rw [this], ht⟩
end
def live (c : Cl) : Bool := decide (c.st = 2) || decide (c.st = 3)
def ndOf (c : Cl) : Nd := ⟨c.nm, c.tk⟩
def ringC (L : List Cl) : List Nd := (L.filter live).map ndOf
theorem ringC_skip {L : List Cl} {k : Nat} {x : Cl} (h : L[k]? = some x) (hl : live x = false) : ringC (L.take (k + 1)) = ringC (L.take k) := by
  obtain ⟨h1, h2⟩ := List.getElem?_eq_some_iff.1 h
  unfold ringC
  rw [List.take_succ_eq_append_getElem h1, h2, List.filter_append, List.filter_cons, hl]
  simp
theorem ringC_take {L : List Cl} {k : Nat} {x : Cl} (h : L[k]? = some x) (hl : live x = true) : ringC (L.take (k + 1)) = ringC (L.take k) ++ [ndOf x] := by
  obtain ⟨h1, h2⟩ := List.getElem?_eq_some_iff.1 h
  unfold ringC
  rw [List.take_succ_eq_append_getElem h1, h2, List.filter_append, List.filter_cons, hl]
  simp
theorem ringC_len (L : List Cl) (k : Nat) : (ringC (L.take k)).length ≤ k := by
  unfold ringC
  rw [List.length_map]
  exact Nat.le_trans (List.length_filter_le _ _) (by rw [List.length_take]; exact Nat.min_le_left _ _)
theorem run_nodeof (a b c d : Value) (w : World) : (Instr.field 27 (.agg #[a, b, c, d]) 2).run Try.prog w = .ok (.agg #[c, d]) w := by
  kernel_rfl
noncomputable def clRing (L : List Cl) : List Nd × Int := if claimsF L = 0 then (ringC L, 0) else ([], claimsF L)
def NdPost (w : World) (r : List Nd × Int) (e : Ending) (w' : World) : Prop := ∃ v', e = .returned (.tuple #[v', .int .i64 r.2]) ∧ Ow (NdB 25 w.heap.size) 2 25 w.heap.size w' v' r.1 ∧ Below w.heap.size w w'
set_option maxHeartbeats 4000000 in
set_option maxRecDepth 100000 in
theorem clring_any (v : Value) (L : List Cl) (w : World) (hs : Sp ClR 4 w v L) : Calls Try.prog 16 #[v] w (NdPost w (clRing L)) := by
  obtain ⟨ao, c, rfl, hnc, hc⟩ := hs.shape
  obtain ⟨n, hn⟩ : ∃ n, L.length = n := ⟨_, rfl⟩
  rw [hn] at hs hnc ⊢
  have HN := Lib.hid hn
  have HS := Lib.hid hs
  obtain ⟨E, hE⟩ : ∃ E, claimsF L = E := ⟨_, rfl⟩
  have HE := Lib.hid hE
  obtain ⟨R, hR⟩ : ∃ R, clRing L = R := ⟨_, rfl⟩
  rw [hR]
  have HR := Lib.hid hR
  clear hn hs hE hR
  by_cases hz : E = 0
  case neg =>
    have HF : Hid (R = ([], E)) := Lib.hid (by rw [← HR.out]; unfold clRing; rw [HE.out, if_neg hz])
    have t1 : (E != 0) = true := by rw [bne_iff_ne]; exact hz
    clear hz
    go_enter Try.func16, Try.ntmps16
    go_wp2_with (go_at_call 20; refine (clcheck_any _ L _ HS.out).mono ?_; rw [HE.out]; rintro e w1 ⟨rfl, hb1⟩)
    go_ret2
    rw [HF.out]
    exact ⟨_, rfl, Ow.nil, hb1⟩
  subst hz
  have hn20 : n ≤ 20 := by have := (claims_zero HE.out).1; rw [HN.out] at this; exact this
  have HTK : Hid (∀ c ∈ L, c.tk.length ≤ 20) := Lib.hid (fun c hc => (node_zero ((claims_zero HE.out).2.1 c hc).1).2.2.1)
  have HF : Hid (R = (ringC L, 0)) := Lib.hid (by rw [← HR.out]; unfold clRing; rw [HE.out, if_pos rfl])
  go_enter Try.func16, Try.ntmps16
  go_wp2_with (go_at_call 20; refine (clcheck_any _ L _ HS.out).mono ?_; rw [HE.out]; rintro e w1 ⟨rfl, hb1⟩)
  go_loopw [5, 15] (fun u i wr => ∃ (k p : Nat), k ≤ n ∧ p ≤ k ∧ i = .int .i64 k ∧ Hid ((ringC (L.take k)).length = p) ∧ Hid (Ow (NdB 25 w.heap.size) 2 25 w.heap.size wr u (ringC (L.take k))) ∧ Below w.heap.size w wr) (fun _ i _ => n - (intOf i).toNat)
  case atStart => exact ⟨0, 0, Nat.zero_le _, Nat.le_refl _, rfl, Lib.hid rfl, Lib.hid Ow.nil, hb1⟩
  case round =>
    obtain ⟨k, p, hk, hpk, rfl, HP, HO, hbel⟩ := hrel
    have hsz := hbel.size
    by_cases hlt : k < n
    case neg =>
      obtain rfl : k = n := by omega
      have HO2 : Hid (Ow (NdB 25 w.heap.size) 2 25 w.heap.size wr u5 (ringC L)) := Lib.hid (by have := HO.out; rwa [List.take_of_length_le (by rw [HN.out]; exact Nat.le_refl _)] at this)
      go_wp2_with fail
      go_ret2
      rw [HF.out]
      exact ⟨_, rfl, HO2.out, hbel⟩
    obtain ⟨x, hx⟩ : ∃ x, L[k]? = some x := ⟨_, List.getElem?_eq_getElem (by rw [HN.out]; exact hlt)⟩
    have hx20 : x.tk.length ≤ 20 := HTK.out x (List.mem_of_getElem? hx)
    obtain ⟨b, off, cs, rfl, ⟨t, rfl, htx⟩, _, hck⟩ := (HS.out.below clR_mono hbel).get hx
    have HX := Lib.hid hx
    have c0 := hck 0 _ rfl
    have c1 := hck 1 _ rfl
    have c2 := hck 2 _ rfl
    have c3 := hck 3 _ rfl
    rw [Nat.add_zero] at c0
    have HTX := Lib.hid htx
    obtain ⟨ta, tc, rfl, -, -, -⟩ := htx.1.shape
    obtain ⟨uo, uc, rfl, hu1, hu2⟩ := Sp.shapeN HO.out.sp HP.out
    obtain ⟨P, hP1, hP2, hP3, hP4⟩ := HO.out
    rw [HP.out] at hP4
    have HPP := Lib.hid (And.intro hP1 (And.intro hP2 hP3))
    have HOW := Lib.hid hP4
    clear hck hx htx hP1 hP2 hP3 hP4
    go_upto_region 8 with (fail)
    obtain ⟨wA, hwA⟩ : ∃ wA, wA = wr.alloc (Obj.cells #[.int .i64 x.ver, .int .i64 x.st, .string x.nm, .slice ta x.tk.length tc] 27) := ⟨_, rfl⟩
    have hbox : wA.heap[wr.heap.size]? = some (.cells #[.int .i64 x.ver, .int .i64 x.st, .string x.nm, .slice ta x.tk.length tc] 27 (0, 0)) := by rw [hwA]; exact heap_alloc_new wr _
    have hbA : Below wr.heap.size wr wA := by rw [hwA]; exact (Below.refl _ _).alloc (Nat.le_refl _) _
    rw [← hwA]
    have hBA : Below w.heap.size w wA := hbel.trans (hbA.mono hsz)
    have HBA := Lib.hid hBA
    have HOA : Hid (wA.ownsRow w.heap.size 25 2 (.slice uo p uc) p (pc P)) := Lib.hid (own_below HOW.out hbA)
    have HPA : Hid (∀ q ∈ P, NdB 25 w.heap.size wA q.1 q.2) := Lib.hid (fun q hq => ndB_mono _ _ _ _ (HPP.out.2.2 q hq) hbA)
    have HVA : Hid (ClV wA (.agg #[.int .i64 x.ver, .int .i64 x.st, .string x.nm, .slice ta x.tk.length tc]) x) := Lib.hid ⟨_, rfl, HTX.out.below hbA⟩
    obtain ⟨⟨d0, d1, d2, d3⟩, -⟩ := bx4 hbox
    generalize wr.heap.size = bx at *
    clear hwA hbox hbA hBA c0 c1 c2 c3
    by_cases hl : live x = true
    case neg =>
      have hl : live x = false := by simpa using hl
      have h2 : (x.st == 2) = false := by unfold live at hl; simp at hl; exact beq_eq_false_iff_ne.2 hl.1
      have h3 : (x.st == 3) = false := by unfold live at hl; simp at hl; exact beq_eq_false_iff_ne.2 hl.2
      have hrs := ringC_skip HX.out hl
      have HP2 : Hid ((ringC (L.take (k + 1))).length = p) := Lib.hid (by rw [hrs]; exact HP.out)
      have HO2 : Hid (Ow (NdB 25 w.heap.size) 2 25 w.heap.size wA (.slice uo p uc) (ringC (L.take (k + 1)))) := Lib.hid (by rw [hrs]; exact ⟨P, HPP.out.1, HPP.out.2.1, HPA.out, by rw [HP.out]; exact HOA.out⟩)
      clear hl hrs
      go_wp2_with fail
      go_roundw
      case rel => exact ⟨k + 1, p, by omega, by omega, by go_num, HP2, HO2, HBA.out⟩
      case measure => simp [intOf]; omega
    have hrs := ringC_take HX.out hl
    have HRS := Lib.hid hrs
    have HLN : Hid ((ringC (L.take (k + 1))).length = p + 1) := Lib.hid (by rw [hrs, List.length_append, HP.out]; rfl)
    have h23 : x.st = 2 ∨ x.st = 3 := by unfold live at hl; simpa using hl
    clear hl hrs
    have H : ∀ b2 b3 : Bool, (b2 || b3) = true → (x.st == 2) = b2 → (x.st == 3) = b3 → True := fun _ _ _ _ _ => trivial
    clear H
    go_cut [26] (fun t wx => t = .bool true ∧ wx = wA)
    case first =>
      rcases h23 with h2 | h2
      · have t2 : (x.st == 2) = true := by rw [h2]; rfl
        clear h2
        go_wp2_with fail
        go_meet
        exact ⟨rfl, rfl⟩
      · have t2 : (x.st == 2) = false := by rw [h2]; rfl
        have t3 : (x.st == 3) = true := by rw [h2]; rfl
        clear h2
        go_wp2_with fail
        go_meet
        exact ⟨rfl, rfl⟩
    obtain ⟨rfl, hwc⟩ := hcut
    subst hwc
    clear h23
    go_wp2_with fail
    refine (own_any _ x _ HVA.out (by omega)).mono ?_
    rintro e w4 ⟨t', rfl, hown4, hb4⟩
    obtain ⟨ro, rc, rfl, -, -, -⟩ := own_shape hown4
    have hO4 := own_below HOA.out hb4
    have HB4 := Lib.hid hb4
    have HT4 := Lib.hid hown4
    have HBW4 := Lib.hid (HBA.out.trans (hb4.mono HBA.out.size))
    have hfl := run_nodeof (.int .i64 x.ver) (.int .i64 x.st) (.string x.nm) (.slice ro x.tk.length rc) w4
    clear hown4 hb4
    go_wp2_with (at_builtin; refine append1 [.string x.nm, .slice ro x.tk.length rc] elNd rfl _ _ rfl hO4 HBW4.out HBW4.out.size rfl rfl rfl (by intro x hx; simp at hx; rcases hx with rfl | rfl <;> rfl) ?c4 ?c5 ?_)
    case c4 => omega
    case c5 => omega
    intro v5 w5 hown5 hbel5 hgr5
    have HON : Hid (Ow (NdB 25 w.heap.size) 2 25 w.heap.size w5 v5 (ringC (L.take (k + 1)))) := Lib.hid (by
      rw [HRS.out]
      exact Ow.snoc ndB_grow HPP.out.1 HPP.out.2.1 (fun q hq => ndB_mono _ _ _ _ (HPA.out q hq) HB4.out) hO4 HP.out.symm hgr5 hown5 rfl ⟨_, rfl, ⟨own_sl HT4.out, HTX.out.2⟩, Apart.own HT4.out (by decide)⟩)
    have HB5 := Lib.hid hbel5
    obtain ⟨vo, vc, rfl, -, -, -⟩ := own_shape hown5
    clear hO4 hown5 hgr5 hbel5
    go_wp2_with fail
    go_roundw
    case rel => exact ⟨k + 1, p + 1, by omega, by omega, by go_num, HLN, HON, HB5.out⟩
    case measure => simp [intOf]; omega
end Go.Proofs.Ytcljeedmiobepaa.Nod
/-
  The ring: the walk of WithoutNode.
-/
namespace Go.Proofs.Ytcljeedmiobepaa.Rng
open Go.RowKit Go.Gh Go.Proofs.Ytcljeedmiobepaa.Nod
set_option linter.unusedVariables false
/-- A node in a row of one's own whose tokens are another's. -/
def NdA (T : TypeId) (B : Nat) (w : World) (x : Nd) (c : List Value) : Prop := ∃ t, c = [.string x.nm, t] ∧ Toks w t x.tk ∧ (0 < x.tk.length → Apart w B T t)
theorem toks_empty {w w' : World} {t : Value} {tk : List Int} (h : Toks w t tk) (hz : tk.length = 0) : Toks w' t tk := by
  obtain ⟨⟨ao, c, rfl, h2, h3, h4, h5, h6⟩, h7⟩ := h
  exact ⟨⟨ao, c, rfl, h2, h3, h4, h5, fun hn => by omega⟩, h7⟩
theorem ndA_mono {T : TypeId} {B : Nat} : Mono (NdA T B) := fun w w' a c ⟨t, h1, h2, h3⟩ hb => ⟨t, h1, h2.below hb, fun hp => (h3 hp).below hb⟩
theorem ndA_grow {T : TypeId} {k B : Nat} : Grow (NdA T B) T k B := fun w w' a c u m us ⟨t, h1, h2, h3⟩ ho hg => by
  rcases Nat.eq_zero_or_pos a.tk.length with hz | hp
  · exact ⟨t, h1, toks_empty h2 hz, fun hp => by omega⟩
  · exact ⟨t, h1, ⟨h2.1.grownA (h3 hp) ho hg, h2.2⟩, fun _ => (h3 hp).grown ho hg⟩
theorem ndA_ndR {T : TypeId} {B : Nat} {w : World} (a : Nd) (c : List Value) (h : NdA T B w a c) : NdR w a c := by
  obtain ⟨t, h1, h2, _⟩ := h
  exact ⟨t, h1, h2⟩
/-- Tokens that stood at the base lie below it. -/
theorem toks_apart {w wr : World} {t : Value} {tk : List Int} {T : TypeId} (h : Toks w t tk) (hb : w.heap.size ≤ wr.heap.size) (hp : 0 < tk.length) : Apart wr w.heap.size T t := by
  intro b hv
  obtain ⟨ao, c, rfl, -, -, -⟩ := h.1.shape
  obtain ⟨b', off, rfl, hc⟩ := h.at hp
  have : b' = b := by simpa [Value.ownBlock] using hv
  subst this
  have := cell_lt hc
  exact Or.inl ⟨this, Nat.lt_of_lt_of_le this hb⟩
/-- Without the name. -/
def outN (L : List Nd) (nm : ByteArray) : List Nd := L.filter fun x => !(x.nm.toList == nm.toList)
theorem outN_take {L : List Nd} {nm : ByteArray} {k : Nat} {x : Nd} (h : L[k]? = some x) : outN (L.take (k + 1)) nm = if x.nm.toList = nm.toList then outN (L.take k) nm else outN (L.take k) nm ++ [x] := by
  obtain ⟨h1, h2⟩ := List.getElem?_eq_some_iff.1 h
  unfold outN
  rw [List.take_succ_eq_append_getElem h1, h2, List.filter_append]
  by_cases he : x.nm.toList = nm.toList
  · rw [if_pos he]; simp [he]
  · rw [if_neg he]; simp [he]
theorem outN_len (L : List Nd) (nm : ByteArray) (k : Nat) : (outN (L.take k) nm).length ≤ k := by
  unfold outN
  exact Nat.le_trans (List.length_filter_le _ _) (by rw [List.length_take]; exact Nat.min_le_left _ _)
def NsPost (w : World) (r : List Nd) (e : Ending) (w' : World) : Prop := ∃ v', e = .returned v' ∧ Ow (NdA 25 w.heap.size) 2 25 w.heap.size w' v' r ∧ Below w.heap.size w w'
set_option maxHeartbeats 4000000 in
set_option maxRecDepth 100000 in
theorem without_any (v : Value) (L : List Nd) (nm : ByteArray) (w : World) (hs : Sp NdR 2 w v L) (hl20 : L.length ≤ 100) : Calls Try.prog 71 #[v, .string nm] w (NsPost w (outN L nm)) := by
  obtain ⟨n, hn⟩ : ∃ n, L.length = n := ⟨_, rfl⟩
  obtain ⟨ao, c, rfl, hnc, hc⟩ := hs.shapeN hn
  rw [hn] at hl20
  have HN := Lib.hid hn
  have HS := Lib.hid hs
  clear hn hs
  go_enter Try.func71, Try.ntmps71
  go_wp2_with fail
  go_loopw [5, 10] (fun u i wr => ∃ (k p : Nat), k ≤ n ∧ p ≤ k ∧ i = .int .i64 k ∧ Hid ((outN (L.take k) nm).length = p) ∧ Hid (Ow (NdA 25 w.heap.size) 2 25 w.heap.size wr u (outN (L.take k) nm)) ∧ Below w.heap.size w wr) (fun _ i _ => n - (intOf i).toNat)
  case atStart => exact ⟨0, 0, Nat.zero_le _, Nat.le_refl _, rfl, Lib.hid rfl, Lib.hid Ow.nil, Below.refl _ _⟩
  case round =>
    obtain ⟨k, p, hk, hpk, rfl, HP, HO, hbel⟩ := hrel
    have hsz := hbel.size
    by_cases hlt : k < n
    case neg =>
      obtain rfl : k = n := by omega
      have HO2 : Hid (Ow (NdA 25 w.heap.size) 2 25 w.heap.size wr u5 (outN L nm)) := Lib.hid (by have := HO.out; rwa [List.take_of_length_le (by rw [HN.out]; exact Nat.le_refl _)] at this)
      go_wp2_with fail
      go_ret
      exact ⟨_, rfl, HO2.out, hbel⟩
    obtain ⟨x, hx⟩ : ∃ x, L[k]? = some x := ⟨_, List.getElem?_eq_getElem (by rw [HN.out]; exact hlt)⟩
    obtain ⟨b, off, cs, rfl, ⟨t, rfl, htx⟩, _, hck⟩ := (HS.out.below ndR_mono hbel).get hx
    obtain ⟨b0, off0, cs0, e0, ⟨t0, rfl, htx0⟩, _, hck0⟩ := HS.out.get hx
    have htt : t0 = t := by
      have h1 := hck0 1 _ rfl
      injection e0 with e0
      have h2 := (hbel.cell (p := ⟨b0, off0 + k * 2 + 1, none⟩) (cell_lt h1)).trans h1
      have h3 := hck 1 _ rfl
      injection e0 with e1 e2
      rw [e1, e2] at h3
      rw [h3] at h2
      exact (Option.some.inj h2).symm
    subst htt
    have HAP : Hid (0 < x.tk.length → ∀ w4 : World, w.heap.size ≤ w4.heap.size → Apart w4 w.heap.size 25 t0) := Lib.hid (fun hp w4 h4 => toks_apart htx0 h4 hp)
    have HX := Lib.hid hx
    have c0 := hck 0 _ rfl
    have c1 := hck 1 _ rfl
    rw [Nat.add_zero] at c0
    have HTX := Lib.hid htx
    obtain ⟨ta, tc, rfl, -, -, -⟩ := htx.1.shape
    obtain ⟨uo, uc, rfl, hu1, hu2⟩ := Sp.shapeN HO.out.sp HP.out
    obtain ⟨P, hP1, hP2, hP3, hP4⟩ := HO.out
    rw [HP.out] at hP4
    have HPP := Lib.hid (And.intro hP1 (And.intro hP2 hP3))
    have HOW := Lib.hid hP4
    have hrs := outN_take (nm := nm) hx
    clear hck hck0 hx htx htx0 hP1 hP2 hP3 hP4 e0
    go_upto_region 5 with (fail)
    obtain ⟨wA, hwA⟩ : ∃ wA, wA = wr.alloc (Obj.cells #[.string x.nm, .slice ta x.tk.length tc] 25) := ⟨_, rfl⟩
    have hbox : wA.heap[wr.heap.size]? = some (.cells #[.string x.nm, .slice ta x.tk.length tc] 25 (0, 0)) := by rw [hwA]; exact heap_alloc_new wr _
    have hbA : Below wr.heap.size wr wA := by rw [hwA]; exact (Below.refl _ _).alloc (Nat.le_refl _) _
    rw [← hwA]
    have hBA : Below w.heap.size w wA := hbel.trans (hbA.mono hsz)
    have HBA := Lib.hid hBA
    have HOA : Hid (wA.ownsRow w.heap.size 25 2 (.slice uo p uc) p (pc P)) := Lib.hid (own_below HOW.out hbA)
    have HPA : Hid (∀ q ∈ P, NdA 25 w.heap.size wA q.1 q.2) := Lib.hid (fun q hq => ndA_mono _ _ _ _ (HPP.out.2.2 q hq) hbA)
    have HTA : Hid (Toks wA (.slice ta x.tk.length tc) x.tk) := Lib.hid (HTX.out.below hbA)
    have hx0 := (row_cell 0 _ hbox rfl).1
    have hx1 := (row_cell 1 _ hbox rfl).1
    generalize wr.heap.size = bx at *
    clear hwA hbox hbA hBA c0 c1
    by_cases he : x.nm.toList = nm.toList
    · rw [if_pos he] at hrs
      have t1 : (x.nm.toList == nm.toList) = true := beq_iff_eq.2 he
      have t2 : (x.nm.toList != nm.toList) = false := by simp [he]
      have HP2 : Hid ((outN (L.take (k + 1)) nm).length = p) := Lib.hid (by rw [hrs]; exact HP.out)
      have HO2 : Hid (Ow (NdA 25 w.heap.size) 2 25 w.heap.size wA (.slice uo p uc) (outN (L.take (k + 1)) nm)) := Lib.hid (by rw [hrs]; exact ⟨P, HPP.out.1, HPP.out.2.1, HPA.out, by rw [HP.out]; exact HOA.out⟩)
      clear hrs
      go_wp2_with fail
      go_roundw
      case rel => exact ⟨k + 1, p, by omega, by omega, by go_num, HP2, HO2, HBA.out⟩
      case measure => simp [intOf]; omega
    · rw [if_neg he] at hrs
      have t1 : (x.nm.toList == nm.toList) = false := by rw [beq_eq_false_iff_ne]; exact he
      have t2 : (x.nm.toList != nm.toList) = true := by simpa using he
      have HRS := Lib.hid hrs
      have HLN : Hid ((outN (L.take (k + 1)) nm).length = p + 1) := Lib.hid (by rw [hrs, List.length_append, HP.out]; rfl)
      clear hrs
      go_wp2_with (at_builtin; refine append1 [.string x.nm, .slice ta x.tk.length tc] elNd rfl _ _ rfl HOA.out HBA.out HBA.out.size rfl rfl rfl (by intro x hx; simp at hx; rcases hx with rfl | rfl <;> rfl) ?c4 ?c5 ?_)
      case c4 => omega
      case c5 => omega
      intro v5 w5 hown5 hbel5 hgr5
      have HON : Hid (Ow (NdA 25 w.heap.size) 2 25 w.heap.size w5 v5 (outN (L.take (k + 1)) nm)) := Lib.hid (by
        rw [HRS.out]
        exact Ow.snoc ndA_grow HPP.out.1 HPP.out.2.1 HPA.out HOA.out HP.out.symm hgr5 hown5 rfl ⟨_, rfl, HTA.out, fun hp => HAP.out hp _ HBA.out.size⟩)
      have HB5 := Lib.hid hbel5
      obtain ⟨vo, vc, rfl, -, -, -⟩ := own_shape hown5
      clear hown5 hgr5 hbel5
      go_wp2_with fail
      go_roundw
      case rel => exact ⟨k + 1, p + 1, by omega, by omega, by go_num, HLN, HON, HB5.out⟩
      case measure => simp [intOf]; omega
end Go.Proofs.Ytcljeedmiobepaa.Rng
/-
  The walk of NodesFault.
-/
namespace Go.Proofs.Ytcljeedmiobepaa.Nod
open Go.RowKit Go.Gh
set_option linter.unusedVariables false
/-- The node ahead of place k. -/
def PrevIs (L : List Nd) (k : Nat) (p : Option Nd) : Prop := (k = 0 ∧ p = none) ∨ ∃ j q, k = j + 1 ∧ p = some q ∧ L[j]? = some q ∧ q.nm.size ≤ 20
set_option maxHeartbeats 4000000 in
set_option maxRecDepth 100000 in
theorem nodesfault_any (v : Value) (L : List Nd) (w : World) (hs : Sp NdR 2 w v L) : Calls Try.prog 63 #[v] w fun e w' => e = .returned (.int .i64 (nodesF L)) ∧ Below w.heap.size w w' := by
  obtain ⟨ao, c, rfl, hnc, hc⟩ := hs.shape
  obtain ⟨n, hn⟩ : ∃ n, n = L.length := ⟨_, rfl⟩
  rw [← hn] at hs hnc ⊢
  have HN := Lib.hid hn
  obtain ⟨F, hF⟩ : ∃ F, nodesF L = F := ⟨_, rfl⟩
  rw [hF]
  have HS := Lib.hid hs
  by_cases hbig : 20 < n
  · have hF2 : F = 2 := by rw [← hF]; exact if_pos (by omega)
    clear hn hF hs
    subst hF2
    go_enter Try.func63, Try.ntmps63
    go_wp2_with fail
    go_ret
    exact ⟨rfl, Below.refl _ _⟩
  have HG : Hid (F = goN none L) := Lib.hid (by rw [← hF]; exact if_neg (by omega))
  clear hn hF hs
  go_enter Try.func63, Try.ntmps63
  go_wp2_with fail
  go_loopw [2, 11] (fun r i wr => ∃ (k : Nat) (p : Option Nd), k ≤ n ∧ i = .int .i64 k ∧ r = .int .i64 0 ∧ Hid (PrevIs L k p) ∧ Hid (F = goN p (L.drop k)) ∧ Below w.heap.size w wr) (fun _ i _ => n - (intOf i).toNat)
  case atStart => exact ⟨0, none, Nat.zero_le _, rfl, rfl, Lib.hid (Or.inl ⟨rfl, rfl⟩), HG, Below.refl _ _⟩
  case round =>
    obtain ⟨k, p, hk, rfl, rfl, HT, HF, hbr⟩ := hrel
    by_cases hlt : k < n
    case neg =>
      obtain rfl : k = n := by omega
      have h0 : F = 0 := by rw [HF.out, HN.out, List.drop_of_length_le (Nat.le_refl _), goN]
      subst h0
      go_wp2_with fail
      go_ret
      exact ⟨rfl, hbr⟩
    obtain ⟨x, hx⟩ : ∃ x, L[k]? = some x := ⟨_, List.getElem?_eq_getElem (by rw [← HN.out]; exact hlt)⟩
    have HX := Lib.hid hx
    obtain ⟨b, off, cs, rfl, ⟨t', rfl, htk⟩, _, hck⟩ := (HS.out.below ndR_mono hbr).get hx
    have HF2 : Hid (F = goN p (x :: L.drop (k + 1))) := Lib.hid (by rw [HF.out, drop_at hx])
    have c0 := hck 0 _ rfl
    have c1 := hck 1 _ rfl
    rw [Nat.add_zero] at c0
    obtain ⟨tw, htk1⟩ := htk
    obtain ⟨ta, tc, rfl, ht1, ht2, -⟩ := tw.shape
    have HTK : Hid (Toks wr (.slice ta x.tk.length tc) x.tk) := Lib.hid ⟨tw, htk1⟩
    obtain ⟨nm, tk⟩ := x
    dsimp only at *
    obtain ⟨m, hm⟩ : ∃ m, m = tk.length := ⟨_, rfl⟩
    rw [← hm] at c1 HTK ht1
    have HM := Lib.hid hm
    clear hx hck tw htk1 hm HF
    have hBa := hbr.alloc hbr.size (Obj.cells #[.string nm, .slice ta m tc] 25)
    by_cases hz : nm.size < 1
    · have h4 : F = 4 := by rw [HF2.out]; exact goN_size (Or.inl hz)
      subst h4
      go_wp2_with fail
      go_ret
      exact ⟨rfl, hBa⟩
    have hz1 : 1 ≤ nm.size := by omega
    by_cases hz2 : 20 < nm.size
    · have h4 : F = 4 := by rw [HF2.out]; exact goN_size (Or.inr hz2)
      subst h4
      go_wp2_with fail
      go_ret
      exact ⟨rfl, hBa⟩
    have HSZ : Hid (¬ (nm.size < 1 ∨ 20 < nm.size)) := Lib.hid (by omega)
    obtain ⟨D, hD⟩ : ∃ D, decide (keyS nm ≤ pk p) = D := ⟨_, rfl⟩
    have HD := Lib.hid hD
    clear hD
    go_upto_region 8 with (fail)
    obtain ⟨wA, hwA⟩ : ∃ wA, wA = wr.alloc (Obj.cells #[.string nm, .slice ta m tc] 25) := ⟨_, rfl⟩
    have hA0 : wA.cell? ⟨wr.heap.size, 0, none⟩ = some (.string nm) := by rw [hwA]; exact cell_new wr _ [_, _] 0 _ rfl
    have hA1 : wA.cell? ⟨wr.heap.size, 1, none⟩ = some (.slice ta m tc) := by rw [hwA]; exact cell_new wr _ [_, _] 1 _ rfl
    have HSA : Hid (Sp NdR 2 wA (.slice (some ⟨b, off, none⟩) n c) L) := Lib.hid (by rw [hwA]; exact HS.out.below ndR_mono hBa)
    have HTA : Hid (Toks wA (.slice ta m tc) tk) := Lib.hid (HTK.out.below (by rw [hwA]; exact (Below.refl _ _).alloc (Nat.le_refl _) _))
    have hAs : wr.heap.size < wA.heap.size := by rw [hwA]; simp
    rw [← hwA] at hBa
    rw [← hwA]
    have HCA : Hid (wA.cell? ⟨wr.heap.size, 0, none⟩ = some (.string nm) ∧ wA.cell? ⟨wr.heap.size, 1, none⟩ = some (.slice ta m tc)) := Lib.hid ⟨hA0, hA1⟩
    have HBA := Lib.hid hBa
    generalize hbx : wr.heap.size = bx at *
    have hwsz := hBa.size
    clear hwA hBa hbx c0 c1 hbr HTK
    go_cut [38] (fun t wx => t = .bool D ∧ Below wA.heap.size wA wx)
    case first =>
      rcases HT.out with ⟨rfl, rfl⟩ | ⟨j, q, rfl, rfl, hq, hqs⟩
      · have hDf : D = false := by rw [← HD.out]; exact decide_eq_false (by have := key_one (s := nm) (by omega); unfold pk; simp only; omega)
        subst hDf
        go_quiet (fail)
        go_wp2
        go_meet
        exact ⟨rfl, below_drewN (Below.refl _ _) _⟩
      · obtain ⟨b2, off2, cs2, e2, ⟨t2, rfl, _⟩, _, hcq⟩ := HSA.out.get hq
        simp only [Option.some.injEq, Addr.mk.injEq, and_true] at e2
        obtain ⟨rfl, rfl⟩ := e2
        have q0 := hcq 0 _ rfl
        rw [Nat.add_zero] at q0
        have hcmp := name_le (s := nm) (t := q.nm) (by omega) hqs
        have HE : Hid (decide (keyS nm ≤ keyS q.nm) = D) := Lib.hid HD.out
        rw [HE.out] at hcmp
        have HCMP := Lib.hid hcmp
        generalize q.nm = qn at *
        generalize hb1 : Op.bytesLess nm.toList qn.toList = b1 at *
        generalize hb2 : (nm.toList == qn.toList) = b2 at *
        have d0 : decide ((0 : Int) < (j + 1 : Nat)) = true := by simp
        have i1 : ((j + 1 : Nat) : Int) - 1 = (j : Int) := by omega
        clear hcq hcmp hq
        go_quiet (fail)
        go_wp2
        go_meet
        exact ⟨congrArg Value.bool HCMP.out, below_drewN (Below.refl _ _) _⟩
    obtain ⟨rfl, hbc⟩ := hcut
    have HBC := Lib.hid (HBA.out.trans (hbc.mono hwsz))
    have b0 : wc.cell? ⟨bx, 0, none⟩ = some (.string nm) := (hbc.cell (p := ⟨bx, 0, none⟩) hAs).trans HCA.out.1
    have b1 : wc.cell? ⟨bx, 1, none⟩ = some (.slice ta m tc) := (hbc.cell (p := ⟨bx, 1, none⟩) hAs).trans HCA.out.2
    cases D with
    | true =>
      have h5 : F = 5 := by rw [HF2.out]; exact goN_order HSZ.out (of_decide_eq_true HD.out)
      subst h5
      go_wp2_with fail
      go_ret
      exact ⟨rfl, HBC.out⟩
    | false =>
    by_cases hz3 : 20 < m
    · have h2 : F = 2 := by rw [HF2.out]; exact goN_large HSZ.out (of_decide_eq_false HD.out) (by rw [← HM.out]; exact hz3)
      subst h2
      go_wp2_with fail
      go_ret
      exact ⟨rfl, HBC.out⟩
    have HTC : Hid (Toks wc (.slice ta m tc) tk) := Lib.hid (HTA.out.below hbc)
    have HCC : Hid (wc.cell? ⟨bx, 0, none⟩ = some (.string nm) ∧ wc.cell? ⟨bx, 1, none⟩ = some (.slice ta m tc)) := Lib.hid ⟨b0, b1⟩
    have hcs : bx < wc.heap.size := Nat.lt_of_lt_of_le hAs hbc.size
    have hcsz := HBC.out.size
    go_wp2_with fail
    clear b0 b1 hA0 hA1 hbc
    go_loopw [2, 46] (fun r i wr => ∃ j : Nat, j ≤ m ∧ i = .int .i64 j ∧ r = .int .i64 0 ∧ Below wc.heap.size wc wr ∧ Hid (∀ i, i + 1 < j → tk.getD i 0 < tk.getD (i + 1) 0)) (fun _ i _ => m - (intOf i).toNat)
    case atStart => exact ⟨0, Nat.zero_le _, rfl, rfl, Below.refl _ _, Lib.hid (fun i hi => by omega)⟩
    case round =>
      obtain ⟨j, hj, rfl, rfl, hbi, hord⟩ := hrel
      have b0 : wr.cell? ⟨bx, 0, none⟩ = some (.string nm) := (hbi.cell (p := ⟨bx, 0, none⟩) hcs).trans HCC.out.1
      have b1 : wr.cell? ⟨bx, 1, none⟩ = some (.slice ta m tc) := (hbi.cell (p := ⟨bx, 1, none⟩) hcs).trans HCC.out.2
      have hBW : Below w.heap.size w wr := HBC.out.trans (hbi.mono hcsz)
      by_cases hlt2 : j < m
      · rcases Nat.eq_zero_or_pos j with rfl | hjp
        · go_wp2_with fail
          go_quiet (fail)
          go_wp2
          go_roundw
          case rel => exact ⟨1, by omega, rfl, rfl, below_drewN hbi _, Lib.hid (fun i hi => by omega)⟩
          case measure => simp [intOf]; omega
        obtain ⟨j, rfl⟩ : ∃ g, j = g + 1 := ⟨j - 1, by omega⟩
        have HTr := HTC.out.below hbi
        obtain ⟨b2, off2, e2, hc1⟩ := HTr.at (i := j + 1) (by rw [← HM.out]; exact hlt2)
        obtain ⟨b3, off3, e3, hc0⟩ := HTr.at (i := j) (by rw [← HM.out]; omega)
        subst e2
        simp only [Option.some.injEq, Addr.mk.injEq, and_true] at e3
        obtain ⟨rfl, rfl⟩ := e3
        clear HTr
        generalize hx : tk.getD j 0 = x at *
        generalize hy : tk.getD (j + 1) 0 = y at *
        have HX := Lib.hid hx
        have HY := Lib.hid hy
        clear hx hy
        have d0 : decide ((0 : Int) < (j + 1 : Nat)) = true := by simp
        have i1 : ((j + 1 : Nat) : Int) - 1 = (j : Int) := by omega
        by_cases hle : y ≤ x
        · have h5 : F = 5 := by rw [HF2.out]; exact goN_bad HSZ.out (of_decide_eq_false HD.out) (by rw [← HM.out]; exact hz3) (not_asc (j := j) (by rw [← HM.out]; exact hlt2) (by rw [HX.out, HY.out]; exact hle))
          subst h5
          go_wp2_with fail
          go_quiet (fail)
          go_wp2_with fail
          go_ret
          exact ⟨rfl, below_drewN hBW _⟩
        · have hlt' : x < y := by omega
          have HNx : Hid (∀ i, i + 1 < j + 1 + 1 → tk.getD i 0 < tk.getD (i + 1) 0) := Lib.hid (by
            intro i hi
            rcases Nat.lt_or_eq_of_le (Nat.le_of_lt_succ hi) with h | h
            · exact hord.out i h
            · obtain rfl : i = j := by omega
              rw [HX.out, HY.out]; exact hlt')
          go_wp2_with fail
          go_quiet (fail)
          go_wp2
          go_roundw
          case rel => exact ⟨j + 1 + 1, by omega, by go_num, rfl, below_drewN hbi _, HNx⟩
          case measure => simp [intOf]; omega
      · have HF3 : Hid (F = goN (some ⟨nm, tk⟩) (L.drop (k + 1))) := Lib.hid (by
          rw [HF2.out]
          exact goN_on HSZ.out (of_decide_eq_false HD.out) (by rw [← HM.out]; exact hz3) (fun i hi => hord.out i (by rw [← HM.out] at hi; omega)))
        have HT2 : Hid (PrevIs L (k + 1) (some ⟨nm, tk⟩)) := Lib.hid (Or.inr ⟨k, _, rfl, rfl, HX.out, by show nm.size ≤ 20; omega⟩)
        go_wp2_with fail
        go_roundw
        case rel => exact ⟨k + 1, _, by omega, by go_num, rfl, HT2, HF3, hBW⟩
        case measure => simp [intOf]; omega
end Go.Proofs.Ytcljeedmiobepaa.Nod
/-
  The ring: the walk of JoinFault.
-/
namespace Go.Proofs.Ytcljeedmiobepaa.Rng
open Go.RowKit Go.Gh Go.Proofs.Ytcljeedmiobepaa.Nod
set_option linter.unusedVariables false
/-- A node that is handed over by value. -/
def NdV (w : World) (v : Value) (x : Nd) : Prop := ∃ t, v = .agg #[.string x.nm, t] ∧ Toks w t x.tk
noncomputable def joinF (L : List Nd) (x : Nd) : Int := if nodesF L ≠ 0 then nodesF L else if nodesF [x] ≠ 0 then nodesF [x] else if hasN L x.nm then 8 else if L.length = 20 then 2 else 0
set_option maxHeartbeats 4000000 in
set_option maxRecDepth 100000 in
theorem joinfault_any (v u : Value) (L : List Nd) (x : Nd) (w : World) (hs : Sp NdR 2 w v L) (hu : NdV w u x) : Calls Try.prog 67 #[v, u] w fun e w' => e = .returned (.int .i64 (joinF L x)) ∧ Below w.heap.size w w' := by
  obtain ⟨n, hn⟩ : ∃ n, L.length = n := ⟨_, rfl⟩
  obtain ⟨ao, c, rfl, hnc, hc⟩ := hs.shapeN hn
  obtain ⟨nm, tk⟩ := x
  obtain ⟨t, rfl, ht⟩ := hu
  dsimp only at ht
  obtain ⟨to', tc, rfl, -, -, -⟩ := ht.1.shape
  obtain ⟨F, hF⟩ : ∃ F, joinF L ⟨nm, tk⟩ = F := ⟨_, rfl⟩
  rw [hF]
  have HF := Lib.hid hF
  have HN := Lib.hid hn
  have HS := Lib.hid hs
  have HT := Lib.hid ht
  clear hn hs ht hF
  obtain ⟨E, hE⟩ : ∃ E, nodesF L = E := ⟨_, rfl⟩
  have HE := Lib.hid hE
  obtain ⟨G, hG⟩ : ∃ G, nodesF [⟨nm, tk⟩] = G := ⟨_, rfl⟩
  have HG := Lib.hid hG
  obtain ⟨K, hK⟩ : ∃ K, hasN L nm = K := ⟨_, rfl⟩
  have HK := Lib.hid hK
  clear hE hG hK
  have hFF : F = if E ≠ 0 then E else if G ≠ 0 then G else if K = true then 8 else if n = 20 then 2 else 0 := by
    rw [← HF.out, ← HE.out, ← HG.out, ← HK.out, ← HN.out]
    rfl
  have HFF := Lib.hid hFF
  clear hFF
  obtain ⟨wA, hwA⟩ : ∃ wA, wA = w.alloc (Obj.cells #[.string nm, .slice to' tk.length tc] 25) := ⟨_, rfl⟩
  have hbox : wA.heap[w.heap.size]? = some (.cells #[.string nm, .slice to' tk.length tc] 25 (0, 0)) := by rw [hwA]; exact heap_alloc_new w _
  have hbA : Below w.heap.size w wA := by rw [hwA]; exact (Below.refl _ _).alloc (Nat.le_refl _) _
  have HSA : Hid (Sp NdR 2 wA (.slice ao n c) L) := Lib.hid (HS.out.below ndR_mono hbA)
  have HBA := Lib.hid hbA
  have HBX := Lib.hid hbox
  go_enter Try.func67, Try.ntmps67
  go_upto_region 1 with (fail)
  rw [← hwA]
  clear hwA hbox hbA
  go_wp2_with fail
  refine (nodesfault_any _ L _ HSA.out).mono ?_
  rw [HE.out]
  rintro e w1 ⟨rfl, hb1⟩
  have HB1 := Lib.hid (HBA.out.trans (hb1.mono HBA.out.size))
  by_cases hz : E = 0
  case neg =>
    have t1 : (E != 0) = true := by rw [bne_iff_ne]; exact hz
    have hF : F = E := by rw [HFF.out, if_pos hz]
    clear hz
    subst hF
    go_wp2_with fail
    go_ret
    exact ⟨rfl, HB1.out⟩
  subst hz
  have hbox1 : w1.heap[w.heap.size]? = some (.cells #[.string nm, .slice to' tk.length tc] 25 (0, 0)) := (hb1.block _ (Array.getElem?_eq_some_iff.1 HBX.out).1).trans HBX.out
  have hT1 : Toks w1 (.slice to' tk.length tc) tk := HT.out.below HB1.out
  have hSN := sp_new (R := NdR) (T := 25) (k := 2) w1 (⟨nm, tk⟩ : Nd) [.string nm, .slice to' tk.length tc] rfl ⟨_, rfl, hT1.below ((Below.refl _ _).alloc (Nat.le_refl _) _)⟩
  have HSN := Lib.hid hSN
  have x0 := (row_cell 0 _ hbox1 rfl).1
  have x1 := (row_cell 1 _ hbox1 rfl).1
  have HBX1 := Lib.hid hbox1
  have HS1 := Lib.hid (HSA.out.below ndR_mono hb1)
  have HBN : Hid (Below w1.heap.size w1 (w1.alloc (Obj.cells #[.string nm, .slice to' tk.length tc] 25))) := Lib.hid ((Below.refl _ _).alloc (Nat.le_refl _) _)
  clear hbox1 hT1 hSN hb1
  go_wp2_with fail
  refine (nodesfault_any _ _ _ HSN.out).mono ?_
  rw [HG.out]
  rintro e w2 ⟨rfl, hb2⟩
  have hb12 := HBN.out.trans (hb2.mono HBN.out.size)
  have HB2 := Lib.hid (HB1.out.trans (hb12.mono HB1.out.size))
  have hbox2 : w2.heap[w.heap.size]? = some (.cells #[.string nm, .slice to' tk.length tc] 25 (0, 0)) := (hb12.block _ (Array.getElem?_eq_some_iff.1 HBX1.out).1).trans HBX1.out
  have HS2 := Lib.hid (HS1.out.below ndR_mono hb12)
  have y0 := (row_cell 0 _ hbox2 rfl).1
  clear x0 x1 hb2 hb12 hbox2
  by_cases hz : G = 0
  case neg =>
    have t1 : (G != 0) = true := by rw [bne_iff_ne]; exact hz
    have hF : F = G := by rw [HFF.out, if_neg (fun h => h rfl), if_pos hz]
    clear hz
    subst hF
    go_wp2_with fail
    go_ret
    exact ⟨rfl, HB2.out⟩
  subst hz
  go_wp2_with fail
  refine (has_any _ L nm _ HS2.out).mono ?_
  rw [HK.out]
  rintro e w3 ⟨rfl, hb3⟩
  have HB3 := Lib.hid (HB2.out.trans (hb3.mono HB2.out.size))
  cases K with
  | true =>
    have hF : F = 8 := by rw [HFF.out, if_neg (fun h => h rfl), if_neg (fun h => h rfl), if_pos rfl]
    subst hF
    go_wp2_with fail
    go_ret
    exact ⟨rfl, HB3.out⟩
  | false =>
    by_cases h20 : n = 20
    · have hF : F = 2 := by rw [HFF.out, if_neg (fun h => h rfl), if_neg (fun h => h rfl), if_neg (by decide), if_pos h20]
      subst hF
      have h20' : ((n : Int) == 20) = true := by rw [h20]; rfl
      clear h20
      go_wp2_with fail
      go_ret
      exact ⟨rfl, HB3.out⟩
    · have hF : F = 0 := by rw [HFF.out, if_neg (fun h => h rfl), if_neg (fun h => h rfl), if_neg (by decide), if_neg h20]
      subst hF
      have h20' : ((n : Int) == 20) = false := by rw [beq_eq_false_iff_ne]; omega
      clear h20
      go_wp2_with fail
      go_ret
      exact ⟨rfl, HB3.out⟩
end Go.Proofs.Ytcljeedmiobepaa.Rng
/-
  The ring: the walk of WithNode.
-/
namespace Go.Proofs.Ytcljeedmiobepaa.Rng
open Go.RowKit Go.Gh Go.Proofs.Ytcljeedmiobepaa.Nod
set_option linter.unusedVariables false
theorem gt_eq (a b : ByteArray) : (!(Op.bytesLess a.toList b.toList || a.toList == b.toList)) = Op.bytesLess b.toList a.toList := by
  rw [bytesLess_eq, bytesLess_eq]
  by_cases h1 : a.toList < b.toList
  · have h2 : ¬ b.toList < a.toList := fun h => List.lt_irrefl _ (List.lt_trans h1 h)
    simp [h1, h2]
  · by_cases h3 : a.toList = b.toList
    · have h2 : ¬ b.toList < a.toList := fun h => by rw [h3] at h; exact List.lt_irrefl _ h
      simp [h3]
    · have h2 : b.toList < a.toList := Classical.byContradiction fun h => h3 (List.le_antisymm (List.not_lt.1 h) (List.not_lt.1 h1))
      simp [h1, h2, h3]
theorem withP_bound (L : List Nd) (x : Nd) (k : Nat) : (withP (L.take k) x).1.length ≤ k + 1 := by
  have h := withP_len x (L.take k) ([], false)
  have h2 : (L.take k).length ≤ k := by rw [List.length_take]; exact Nat.min_le_left _ _
  unfold withP
  simp only [List.length_nil, n01] at h
  omega
set_option maxHeartbeats 8000000 in
set_option maxRecDepth 100000 in
theorem with_any (v vx : Value) (L : List Nd) (x : Nd) (w : World) (hs : Sp NdR 2 w v L) (hx : NdV w vx x) (hl20 : L.length ≤ 100) : Calls Try.prog 68 #[v, vx] w fun e w' => ∃ v', e = .returned v' ∧ Sp NdR 2 w' v' (withN L x) ∧ Below w.heap.size w w' := by
  obtain ⟨n, hn⟩ : ∃ n, L.length = n := ⟨_, rfl⟩
  obtain ⟨ao, c, rfl, hnc, hc⟩ := hs.shapeN hn
  rw [hn] at hl20
  obtain ⟨xn, xk⟩ := x
  obtain ⟨xt, rfl, hxt⟩ := hx
  dsimp only at hxt
  obtain ⟨xo, xc, rfl, -, -, -⟩ := hxt.1.shape
  have HN := Lib.hid hn
  clear hn
  obtain ⟨W, hW⟩ : ∃ W, W = w.alloc (Obj.cells #[.string xn, .slice xo xk.length xc] 25) := ⟨_, rfl⟩
  have hbox : W.heap[w.heap.size]? = some (.cells #[.string xn, .slice xo xk.length xc] 25 (0, 0)) := by rw [hW]; exact heap_alloc_new w _
  have hbW : Below w.heap.size w W := by rw [hW]; exact (Below.refl _ _).alloc (Nat.le_refl _) _
  have HS : Hid (Sp NdR 2 W (.slice ao n c) L) := Lib.hid (hs.below ndR_mono hbW)
  have HXT : Hid (Toks W (.slice xo xk.length xc) xk) := Lib.hid (hxt.below hbW)
  have HXA : Hid (0 < xk.length → ∀ w4 : World, W.heap.size ≤ w4.heap.size → Apart w4 W.heap.size 25 (.slice xo xk.length xc)) := Lib.hid (fun hp w4 h4 => toks_apart HXT.out h4 hp)
  have HBW := Lib.hid hbW
  have hbxl : w.heap.size < W.heap.size := (Array.getElem?_eq_some_iff.1 hbox).1
  have HBX : Hid (∀ wr : World, Below W.heap.size W wr → wr.heap[w.heap.size]? = some (.cells #[.string xn, .slice xo xk.length xc] 25 (0, 0))) := Lib.hid (fun wr hb => (hb.block _ hbxl).trans hbox)
  clear hs hxt
  go_enter Try.func68, Try.ntmps68
  go_upto_region 1 with (fail)
  rw [← hW]
  clear hW hbox hbW
  generalize hbxe : w.heap.size = bx at *
  have HBE := Lib.hid hbxe
  clear hbxe
  go_wp2_with fail
  go_loopw [5, 6, 11] (fun u q i wr => ∃ (k p : Nat) (b : Bool), k ≤ n ∧ p ≤ k + 1 ∧ (b = false → p ≤ k) ∧ i = .int .i64 k ∧ q = .bool b ∧ Hid ((withP (L.take k) ⟨xn, xk⟩).2 = b) ∧ Hid ((withP (L.take k) ⟨xn, xk⟩).1.length = p) ∧ Hid (Ow (NdA 25 W.heap.size) 2 25 W.heap.size wr u (withP (L.take k) ⟨xn, xk⟩).1) ∧ Below W.heap.size W wr) (fun _ _ i _ => n - (intOf i).toNat)
  case atStart => exact ⟨0, 0, false, Nat.zero_le _, Nat.zero_le _, fun _ => Nat.le_refl _, rfl, rfl, Lib.hid rfl, Lib.hid rfl, Lib.hid Ow.nil, Below.refl _ _⟩
  case round =>
    obtain ⟨k, p, pb, hk, hpk, hpf, rfl, rfl, HB, HP, HO, hbel⟩ := hrel
    have hsz := hbel.size
    by_cases hlt : k < n
    case neg =>
      obtain rfl : k = n := by omega
      have hLk : L.take k = L := List.take_of_length_le (by rw [HN.out]; exact Nat.le_refl _)
      rw [hLk] at HB HP HO
      obtain ⟨uo, uc, rfl, hu1, hu2⟩ := Sp.shapeN HO.out.sp HP.out
      cases pb with
      | true =>
        have HR : Hid (Sp NdR 2 wr (.slice uo p uc) (withN L ⟨xn, xk⟩)) := Lib.hid (by
          unfold withN
          rw [HB.out, if_pos rfl]
          exact HO.out.sp.weaken ndA_ndR)
        go_wp2_with fail
        go_ret
        exact ⟨_, rfl, HR.out, by rw [HBE.out]; exact HBW.out.trans (hbel.mono (Nat.le_of_lt hbxl))⟩
      | false =>
        obtain ⟨P, hP1, hP2, hP3, hP4⟩ := HO.out
        rw [HP.out] at hP4
        have HPP := Lib.hid (And.intro hP1 (And.intro hP2 hP3))
        have HOW := Lib.hid hP4
        obtain ⟨⟨x0, x1⟩, -⟩ := bx2 (HBX.out wr hbel)
        have HTX := Lib.hid (HXT.out.below hbel)
        clear hP1 hP2 hP3 hP4
        go_wp2_with (at_builtin; refine append1 [.string xn, .slice xo xk.length xc] elNd rfl _ _ rfl HOW.out hbel hbel.size rfl rfl rfl (by intro x hx; simp at hx; rcases hx with rfl | rfl <;> rfl) ?c4 ?c5 ?_)
        case c4 => omega
        case c5 => omega
        intro v5 w5 hown5 hbel5 hgr5
        have HON : Hid (Sp NdR 2 w5 v5 (withN L ⟨xn, xk⟩)) := Lib.hid (by
          unfold withN
          rw [HB.out, if_neg (by decide)]
          exact (Ow.snoc ndA_grow HPP.out.1 HPP.out.2.1 HPP.out.2.2 HOW.out HP.out.symm hgr5 hown5 rfl ⟨_, rfl, HTX.out, fun hp => HXA.out hp _ hbel.size⟩).sp.weaken ndA_ndR)
        have HB5 := Lib.hid hbel5
        obtain ⟨vo, vc, rfl, -, -, -⟩ := own_shape hown5
        clear hown5 hgr5 hbel5
        go_wp2_with fail
        go_ret
        exact ⟨_, rfl, HON.out, by rw [HBE.out]; exact HBW.out.trans (HB5.out.mono (Nat.le_of_lt hbxl))⟩
    obtain ⟨y, hy⟩ : ∃ y, L[k]? = some y := ⟨_, List.getElem?_eq_getElem (by rw [HN.out]; exact hlt)⟩
    obtain ⟨b, off, cs, rfl, ⟨t, rfl, hty⟩, _, hck⟩ := (HS.out.below ndR_mono hbel).get hy
    obtain ⟨b0, off0, cs0, e0, ⟨t0, rfl, hty0⟩, _, hck0⟩ := HS.out.get hy
    have htt : t0 = t := by
      have h1 := hck0 1 _ rfl
      injection e0 with e0
      have h2 := (hbel.cell (p := ⟨b0, off0 + k * 2 + 1, none⟩) (cell_lt h1)).trans h1
      have h3 := hck 1 _ rfl
      injection e0 with e1 e2
      rw [e1, e2] at h3
      rw [h3] at h2
      exact (Option.some.inj h2).symm
    subst htt
    have HAP : Hid (0 < y.tk.length → ∀ w4 : World, W.heap.size ≤ w4.heap.size → Apart w4 W.heap.size 25 t0) := Lib.hid (fun hp w4 h4 => toks_apart hty0 h4 hp)
    have HY := Lib.hid hy
    have c0 := hck 0 _ rfl
    have c1 := hck 1 _ rfl
    rw [Nat.add_zero] at c0
    have HTY := Lib.hid hty
    have HTX := Lib.hid (HXT.out.below hbel)
    obtain ⟨ta, tc, rfl, -, -, -⟩ := hty.1.shape
    obtain ⟨uo, uc, rfl, hu1, hu2⟩ := Sp.shapeN HO.out.sp HP.out
    obtain ⟨P, hP1, hP2, hP3, hP4⟩ := HO.out
    rw [HP.out] at hP4
    have HPP := Lib.hid (And.intro hP1 (And.intro hP2 hP3))
    have HOW := Lib.hid hP4
    have hrs := withP_take (x := ⟨xn, xk⟩) hy
    clear hck hck0 hy hty hty0 hP1 hP2 hP3 hP4 e0
    go_upto_region 6 with (fail)
    obtain ⟨wA, hwA⟩ : ∃ wA, wA = wr.alloc (Obj.cells #[.string y.nm, .slice ta y.tk.length tc] 25) := ⟨_, rfl⟩
    have hboxA : wA.heap[wr.heap.size]? = some (.cells #[.string y.nm, .slice ta y.tk.length tc] 25 (0, 0)) := by rw [hwA]; exact heap_alloc_new wr _
    have hbA : Below wr.heap.size wr wA := by rw [hwA]; exact (Below.refl _ _).alloc (Nat.le_refl _) _
    rw [← hwA]
    have hBA : Below W.heap.size W wA := hbel.trans (hbA.mono hsz)
    have HBA := Lib.hid hBA
    have HOA : Hid (wA.ownsRow W.heap.size 25 2 (.slice uo p uc) p (pc P)) := Lib.hid (own_below HOW.out hbA)
    have HPA : Hid (∀ q ∈ P, NdA 25 W.heap.size wA q.1 q.2) := Lib.hid (fun q hq => ndA_mono _ _ _ _ (HPP.out.2.2 q hq) hbA)
    have HTA : Hid (Toks wA (.slice ta y.tk.length tc) y.tk) := Lib.hid (HTY.out.below hbA)
    have HTXA : Hid (Toks wA (.slice xo xk.length xc) xk) := Lib.hid (HTX.out.below hbA)
    have HNE : Hid (Value.ownBlock (.slice uo p uc) ≠ some wr.heap.size) := Lib.hid (fun e => by have := (HOW.out.lt _ e).2; omega)
    have HBXA := Lib.hid hboxA
    obtain ⟨⟨y0, y1⟩, -⟩ := bx2 hboxA
    obtain ⟨⟨x0, x1⟩, -⟩ := bx2 (HBX.out wA hBA)
    generalize wr.heap.size = bo at *
    clear hwA hboxA hbA hBA c0 c1
    obtain ⟨G, hG⟩ : ∃ G, Op.bytesLess xn.toList y.nm.toList = G := ⟨_, rfl⟩
    have hGG : (!(Op.bytesLess y.nm.toList xn.toList || y.nm.toList == xn.toList)) = G := by rw [gt_eq]; exact hG
    have HG := Lib.hid hG
    have HRS := Lib.hid hrs
    clear hG hrs
    obtain ⟨C, hC0⟩ : ∃ C, (!pb && G) = C := ⟨_, rfl⟩
    have HC := Lib.hid hC0
    clear hC0
    go_cut [23] (fun t wx => t = .bool C ∧ wx = wA)
    case first =>
      cases pb with
      | true =>
        obtain rfl : C = false := HC.out.symm
        go_wp2_with fail
        go_meet
        exact ⟨rfl, rfl⟩
      | false =>
        obtain rfl : C = G := HC.out.symm
        go_wp2_with fail
        go_meet
        exact ⟨rfl, rfl⟩
    obtain ⟨rfl, hwc⟩ := hcut
    subst hwc
    clear hGG
    cases C with
    | true =>
      obtain ⟨rfl, rfl⟩ : pb = false ∧ G = true := by
        have := HC.out
        cases pb <;> cases G <;> simp at this ⊢
      have HRS2 : Hid (withP (L.take (k + 1)) ⟨xn, xk⟩ = ((withP (L.take k) ⟨xn, xk⟩).1 ++ [⟨xn, xk⟩] ++ [y], true)) := Lib.hid (by
        rw [HRS.out]
        unfold withS
        rw [if_pos ⟨HB.out, HG.out⟩, List.append_assoc]
        rfl)
      clear HRS
      go_wp2_with (at_builtin; refine append1 [.string xn, .slice xo xk.length xc] elNd rfl _ _ rfl HOA.out HBA.out HBA.out.size rfl rfl rfl (by intro x hx; simp at hx; rcases hx with rfl | rfl <;> rfl) ?c4 ?c5 ?_)
      case c4 => omega
      case c5 => omega
      intro v5 w5 hown5 hbel5 hgr5
      have HON : Hid (Ow (NdA 25 W.heap.size) 2 25 W.heap.size w5 v5 ((withP (L.take k) ⟨xn, xk⟩).1 ++ [⟨xn, xk⟩])) := Lib.hid
        (Ow.snoc ndA_grow HPP.out.1 HPP.out.2.1 HPA.out HOA.out HP.out.symm hgr5 hown5 rfl ⟨_, rfl, HTXA.out, fun hp => HXA.out hp _ HBA.out.size⟩)
      have HB5 := Lib.hid hbel5
      obtain ⟨⟨z0, z1⟩, -⟩ := bx2 (grown_block2 hgr5 HNE.out HBXA.out)
      have HTA5 : Hid (Toks w5 (.slice ta y.tk.length tc) y.tk) := Lib.hid ⟨by
        rcases Nat.eq_zero_or_pos y.tk.length with hz | hp
        · exact (toks_empty HTA.out hz).1
        · exact HTA.out.1.grownA (HAP.out hp _ HBA.out.size) HOA.out hgr5, HTA.out.2⟩
      obtain ⟨P5, hQ1, hQ2, hQ3, hQ4⟩ := HON.out
      have hl5 : ((withP (L.take k) ⟨xn, xk⟩).1 ++ [(⟨xn, xk⟩ : Nd)]).length = p + 1 := by rw [List.length_append, HP.out]; rfl
      rw [hl5] at hQ4
      have HQ := Lib.hid (And.intro hQ1 (And.intro hQ2 (And.intro hQ3 hQ4)))
      obtain ⟨vo, vc, rfl, hv1, hv2, -⟩ := own_shape hown5
      clear hown5 hgr5 hbel5 y0 y1 hQ1 hQ2 hQ3 hQ4
      go_wp2_with (at_builtin; refine append1 [.string y.nm, .slice ta y.tk.length tc] elNd rfl _ _ rfl HQ.out.2.2.2 HB5.out HB5.out.size rfl rfl rfl (by intro x hx; simp at hx; rcases hx with rfl | rfl <;> rfl) ?d4 ?d5 ?_)
      case d4 => omega
      case d5 => omega
      intro v6 w6 hown6 hbel6 hgr6
      have HON6 : Hid (Ow (NdA 25 W.heap.size) 2 25 W.heap.size w6 v6 (withP (L.take (k + 1)) ⟨xn, xk⟩).1) := Lib.hid (by
        rw [HRS2.out]
        exact Ow.snoc ndA_grow HQ.out.1 HQ.out.2.1 HQ.out.2.2.1 HQ.out.2.2.2 hl5.symm hgr6 hown6 rfl ⟨_, rfl, HTA5.out, fun hp => HAP.out hp _ HB5.out.size⟩)
      have HB6 := Lib.hid hbel6
      have HL6 : Hid ((withP (L.take (k + 1)) ⟨xn, xk⟩).1.length = p + 1 + 1) := Lib.hid (by rw [HRS2.out, List.length_append, hl5]; rfl)
      have HP6 : Hid ((withP (L.take (k + 1)) ⟨xn, xk⟩).2 = true) := Lib.hid (by rw [HRS2.out])
      obtain ⟨ro, rc, rfl, -, -, -⟩ := own_shape hown6
      clear hown6 hgr6 hbel6 hl5
      go_wp2_with fail
      go_roundw
      case rel => exact ⟨k + 1, p + 1 + 1, true, by omega, by have hpf2 := hpf (by trivial); omega, fun h => by simp at h, by go_num, rfl, HP6, HL6, HON6, HB6.out⟩
      case measure => simp [intOf]; omega
    | false =>
      have hC : ¬ (pb = false ∧ G = true) := fun h => by
        have := HC.out
        rw [h.1, h.2] at this
        simp at this
      have HRS2 : Hid (withP (L.take (k + 1)) ⟨xn, xk⟩ = ((withP (L.take k) ⟨xn, xk⟩).1 ++ [y], pb)) := Lib.hid (by
        rw [HRS.out]
        unfold withS
        rw [if_neg (fun h => hC ⟨HB.out.symm.trans h.1, HG.out.symm.trans h.2⟩), HB.out])
      clear HRS hC
      go_wp2_with (at_builtin; refine append1 [.string y.nm, .slice ta y.tk.length tc] elNd rfl _ _ rfl HOA.out HBA.out HBA.out.size rfl rfl rfl (by intro x hx; simp at hx; rcases hx with rfl | rfl <;> rfl) ?c4 ?c5 ?_)
      case c4 => omega
      case c5 => omega
      intro v5 w5 hown5 hbel5 hgr5
      have HON : Hid (Ow (NdA 25 W.heap.size) 2 25 W.heap.size w5 v5 (withP (L.take (k + 1)) ⟨xn, xk⟩).1) := Lib.hid (by
        rw [HRS2.out]
        exact Ow.snoc ndA_grow HPP.out.1 HPP.out.2.1 HPA.out HOA.out HP.out.symm hgr5 hown5 rfl ⟨_, rfl, HTA.out, fun hp => HAP.out hp _ HBA.out.size⟩)
      have HB5 := Lib.hid hbel5
      have HL5 : Hid ((withP (L.take (k + 1)) ⟨xn, xk⟩).1.length = p + 1) := Lib.hid (by rw [HRS2.out, List.length_append, HP.out]; rfl)
      have HP5 : Hid ((withP (L.take (k + 1)) ⟨xn, xk⟩).2 = pb) := Lib.hid (by rw [HRS2.out])
      obtain ⟨vo, vc, rfl, -, -, -⟩ := own_shape hown5
      clear hown5 hgr5 hbel5
      go_wp2_with fail
      go_roundw
      case rel => exact ⟨k + 1, p + 1, pb, by omega, by omega, fun h => by have := hpf h; omega, by go_num, rfl, HP5, HL5, HON, HB5.out⟩
      case measure => simp [intOf]; omega
end Go.Proofs.Ytcljeedmiobepaa.Rng
