/-
  The walk of claim.Ring; a claim that is handed in by value.
-/
import Derived.Test.YtcljeedmiobepaaClOwn
import Derived.Test.YtcljeedmiobepaaClm1
namespace Go.Proofs.Ytcljeedmiobepaa.Nod
open Go.RowKit Go.Gh Go.WideShapes Go.ChangeShapes Go.ChangeAt Go.Deep
set_option linter.unusedVariables false
def IsClaim (w : World) (v : Value) : Prop := ∃ x, ClV w v x
section
variable {H : Type} {enc : TypeId × Value → H} {W : World} {base b0 : Nat} {r : Reach} {spare : Nat → Bool} {held : Bool} {v : Value} {d : DataW H} {ps : List MemPlace}
set_option maxRecDepth 100000 in
theorem isClaim_of (hv : Value.okWide Try.prog W r b0 27 v) (hd : DataW.Trod enc Try.prog W base spare held 27 v d ps) (hs : ∀ n ∈ d.weights Try.prog 27, n ≤ reachBytes) : IsClaim W v := by
  obtain ⟨cs, rfl, hsz⟩ := okWide_struct Try.underlying27 hv
  obtain ⟨fuel, hf⟩ := hd
  rw [kCl.1] at hsz
  have hf' : DataW.trod enc Try.prog W base spare held fuel 27 cs.toList = some (d, ps) := by simpa [Value.cells] using hf
  obtain ⟨c0, c1, c2, c3, e⟩ := four (c := cs.toList) (by simpa using hsz)
  rw [e] at hf'
  obtain ⟨x, t, e2, ht⟩ := trod_claim hf'
  have : cs = #[.int .i64 x.ver, .int .i64 x.st, .string x.nm, t] := by
    rw [← e] at e2
    have := congrArg List.toArray e2
    simpa using this
  exact ⟨x, t, by rw [this], ht⟩
end
def live (c : Cl) : Bool := decide (c.st = 2) || decide (c.st = 3)
def ndOf (c : Cl) : Nd := ⟨c.nm, c.tk⟩
def ringC (L : List Cl) : List Nd := (L.filter live).map ndOf
theorem ringC_skip {L : List Cl} {k : Nat} {x : Cl} (h : L[k]? = some x) (hl : live x = false) : ringC (L.take (k + 1)) = ringC (L.take k) := by
  obtain ⟨h1, h2⟩ := List.getElem?_eq_some_iff.1 h
  unfold ringC
  rw [List.take_succ_eq_append_getElem h1, h2, List.filter_append, List.filter_cons, hl]
  simp
theorem ringC_take {L : List Cl} {k : Nat} {x : Cl} (h : L[k]? = some x) (hl : live x = true) : ringC (L.take (k + 1)) = ringC (L.take k) ++ [ndOf x] := by
  obtain ⟨h1, h2⟩ := List.getElem?_eq_some_iff.1 h
  unfold ringC
  rw [List.take_succ_eq_append_getElem h1, h2, List.filter_append, List.filter_cons, hl]
  simp
theorem ringC_len (L : List Cl) (k : Nat) : (ringC (L.take k)).length ≤ k := by
  unfold ringC
  rw [List.length_map]
  exact Nat.le_trans (List.length_filter_le _ _) (by rw [List.length_take]; exact Nat.min_le_left _ _)
theorem run_nodeof (a b c d : Value) (w : World) : (Instr.field 27 (.agg #[a, b, c, d]) 2).run Try.prog w = .ok (.agg #[c, d]) w := by
  kernel_rfl
noncomputable def clRing (L : List Cl) : List Nd × Int := if claimsF L = 0 then (ringC L, 0) else ([], claimsF L)
def NdPost (w : World) (r : List Nd × Int) (e : Ending) (w' : World) : Prop := ∃ v', e = .returned (.tuple #[v', .int .i64 r.2]) ∧ Ow (NdB 25 w.heap.size) 2 25 w.heap.size w' v' r.1 ∧ Below w.heap.size w w'
set_option maxHeartbeats 4000000 in
set_option maxRecDepth 100000 in
theorem clring_any (v : Value) (L : List Cl) (w : World) (hs : Sp ClR 4 w v L) : Calls Try.prog 16 #[v] w (NdPost w (clRing L)) := by
  obtain ⟨ao, c, rfl, hnc, hc⟩ := hs.shape
  obtain ⟨n, hn⟩ : ∃ n, L.length = n := ⟨_, rfl⟩
  rw [hn] at hs hnc ⊢
  have HN := Lib.hid hn
  have HS := Lib.hid hs
  obtain ⟨E, hE⟩ : ∃ E, claimsF L = E := ⟨_, rfl⟩
  have HE := Lib.hid hE
  obtain ⟨R, hR⟩ : ∃ R, clRing L = R := ⟨_, rfl⟩
  rw [hR]
  have HR := Lib.hid hR
  clear hn hs hE hR
  by_cases hz : E = 0
  case neg =>
    have HF : Hid (R = ([], E)) := Lib.hid (by rw [← HR.out]; unfold clRing; rw [HE.out, if_neg hz])
    have t1 : (E != 0) = true := by rw [bne_iff_ne]; exact hz
    clear hz
    go_enter Try.func16, Try.ntmps16
    go_wp2_with (go_at_call 20; refine (clcheck_any _ L _ HS.out).mono ?_; rw [HE.out]; rintro e w1 ⟨rfl, hb1⟩)
    go_ret2
    rw [HF.out]
    exact ⟨_, rfl, Ow.nil, hb1⟩
  subst hz
  have hn20 : n ≤ 20 := by have := (claims_zero HE.out).1; rw [HN.out] at this; exact this
  have HTK : Hid (∀ c ∈ L, c.tk.length ≤ 20) := Lib.hid (fun c hc => (node_zero ((claims_zero HE.out).2.1 c hc).1).2.2.1)
  have HF : Hid (R = (ringC L, 0)) := Lib.hid (by rw [← HR.out]; unfold clRing; rw [HE.out, if_pos rfl])
  go_enter Try.func16, Try.ntmps16
  go_wp2_with (go_at_call 20; refine (clcheck_any _ L _ HS.out).mono ?_; rw [HE.out]; rintro e w1 ⟨rfl, hb1⟩)
  go_loopw [5, 15] (fun u i wr => ∃ (k p : Nat), k ≤ n ∧ p ≤ k ∧ i = .int .i64 k ∧ Hid ((ringC (L.take k)).length = p) ∧ Hid (Ow (NdB 25 w.heap.size) 2 25 w.heap.size wr u (ringC (L.take k))) ∧ Below w.heap.size w wr) (fun _ i _ => n - (intOf i).toNat)
  case atStart => exact ⟨0, 0, Nat.zero_le _, Nat.le_refl _, rfl, Lib.hid rfl, Lib.hid Ow.nil, hb1⟩
  case round =>
    obtain ⟨k, p, hk, hpk, rfl, HP, HO, hbel⟩ := hrel
    have hsz := hbel.size
    by_cases hlt : k < n
    case neg =>
      obtain rfl : k = n := by omega
      have HO2 : Hid (Ow (NdB 25 w.heap.size) 2 25 w.heap.size wr u5 (ringC L)) := Lib.hid (by have := HO.out; rwa [List.take_of_length_le (by rw [HN.out]; exact Nat.le_refl _)] at this)
      go_wp2_with fail
      go_ret2
      rw [HF.out]
      exact ⟨_, rfl, HO2.out, hbel⟩
    obtain ⟨x, hx⟩ : ∃ x, L[k]? = some x := ⟨_, List.getElem?_eq_getElem (by rw [HN.out]; exact hlt)⟩
    have hx20 : x.tk.length ≤ 20 := HTK.out x (List.mem_of_getElem? hx)
    obtain ⟨b, off, cs, rfl, ⟨t, rfl, htx⟩, _, hck⟩ := (HS.out.below clR_mono hbel).get hx
    have HX := Lib.hid hx
    have c0 := hck 0 _ rfl
    have c1 := hck 1 _ rfl
    have c2 := hck 2 _ rfl
    have c3 := hck 3 _ rfl
    rw [Nat.add_zero] at c0
    have HTX := Lib.hid htx
    obtain ⟨ta, tc, rfl, -, -, -⟩ := htx.1.shape
    obtain ⟨uo, uc, rfl, hu1, hu2⟩ := Sp.shapeN HO.out.sp HP.out
    obtain ⟨P, hP1, hP2, hP3, hP4⟩ := HO.out
    rw [HP.out] at hP4
    have HPP := Lib.hid (And.intro hP1 (And.intro hP2 hP3))
    have HOW := Lib.hid hP4
    clear hck hx htx hP1 hP2 hP3 hP4
    go_upto_region 8 with (fail)
    obtain ⟨wA, hwA⟩ : ∃ wA, wA = wr.alloc (Obj.cells #[.int .i64 x.ver, .int .i64 x.st, .string x.nm, .slice ta x.tk.length tc] 27) := ⟨_, rfl⟩
    have hbox : wA.heap[wr.heap.size]? = some (.cells #[.int .i64 x.ver, .int .i64 x.st, .string x.nm, .slice ta x.tk.length tc] 27 (0, 0)) := by rw [hwA]; exact heap_alloc_new wr _
    have hbA : Below wr.heap.size wr wA := by rw [hwA]; exact (Below.refl _ _).alloc (Nat.le_refl _) _
    rw [← hwA]
    have hBA : Below w.heap.size w wA := hbel.trans (hbA.mono hsz)
    have HBA := Lib.hid hBA
    have HOA : Hid (wA.ownsRow w.heap.size 25 2 (.slice uo p uc) p (pc P)) := Lib.hid (own_below HOW.out hbA)
    have HPA : Hid (∀ q ∈ P, NdB 25 w.heap.size wA q.1 q.2) := Lib.hid (fun q hq => ndB_mono _ _ _ _ (HPP.out.2.2 q hq) hbA)
    have HVA : Hid (ClV wA (.agg #[.int .i64 x.ver, .int .i64 x.st, .string x.nm, .slice ta x.tk.length tc]) x) := Lib.hid ⟨_, rfl, HTX.out.below hbA⟩
    obtain ⟨⟨d0, d1, d2, d3⟩, -⟩ := bx4 hbox
    generalize wr.heap.size = bx at *
    clear hwA hbox hbA hBA c0 c1 c2 c3
    by_cases hl : live x = true
    case neg =>
      have hl : live x = false := by simpa using hl
      have h2 : (x.st == 2) = false := by unfold live at hl; simp at hl; exact beq_eq_false_iff_ne.2 hl.1
      have h3 : (x.st == 3) = false := by unfold live at hl; simp at hl; exact beq_eq_false_iff_ne.2 hl.2
      have hrs := ringC_skip HX.out hl
      have HP2 : Hid ((ringC (L.take (k + 1))).length = p) := Lib.hid (by rw [hrs]; exact HP.out)
      have HO2 : Hid (Ow (NdB 25 w.heap.size) 2 25 w.heap.size wA (.slice uo p uc) (ringC (L.take (k + 1)))) := Lib.hid (by rw [hrs]; exact ⟨P, HPP.out.1, HPP.out.2.1, HPA.out, by rw [HP.out]; exact HOA.out⟩)
      clear hl hrs
      go_wp2_with fail
      go_roundw
      case rel => exact ⟨k + 1, p, by omega, by omega, by go_num, HP2, HO2, HBA.out⟩
      case measure => simp [intOf]; omega
    have hrs := ringC_take HX.out hl
    have HRS := Lib.hid hrs
    have HLN : Hid ((ringC (L.take (k + 1))).length = p + 1) := Lib.hid (by rw [hrs, List.length_append, HP.out]; rfl)
    have h23 : x.st = 2 ∨ x.st = 3 := by unfold live at hl; simpa using hl
    clear hl hrs
    have H : ∀ b2 b3 : Bool, (b2 || b3) = true → (x.st == 2) = b2 → (x.st == 3) = b3 → True := fun _ _ _ _ _ => trivial
    clear H
    go_cut [26] (fun t wx => t = .bool true ∧ wx = wA)
    case first =>
      rcases h23 with h2 | h2
      · have t2 : (x.st == 2) = true := by rw [h2]; rfl
        clear h2
        go_wp2_with fail
        go_meet
        exact ⟨rfl, rfl⟩
      · have t2 : (x.st == 2) = false := by rw [h2]; rfl
        have t3 : (x.st == 3) = true := by rw [h2]; rfl
        clear h2
        go_wp2_with fail
        go_meet
        exact ⟨rfl, rfl⟩
    obtain ⟨rfl, hwc⟩ := hcut
    subst hwc
    clear h23
    go_wp2_with fail
    refine (own_any _ x _ HVA.out (by omega)).mono ?_
    rintro e w4 ⟨t', rfl, hown4, hb4⟩
    obtain ⟨ro, rc, rfl, -, -, -⟩ := own_shape hown4
    have hO4 := own_below HOA.out hb4
    have HB4 := Lib.hid hb4
    have HT4 := Lib.hid hown4
    have HBW4 := Lib.hid (HBA.out.trans (hb4.mono HBA.out.size))
    have hfl := run_nodeof (.int .i64 x.ver) (.int .i64 x.st) (.string x.nm) (.slice ro x.tk.length rc) w4
    clear hown4 hb4
    go_wp2_with (at_builtin; refine append1 [.string x.nm, .slice ro x.tk.length rc] elNd rfl _ _ rfl hO4 HBW4.out HBW4.out.size rfl rfl rfl (by intro x hx; simp at hx; rcases hx with rfl | rfl <;> rfl) ?c4 ?c5 ?_)
    case c4 => omega
    case c5 => omega
    intro v5 w5 hown5 hbel5 hgr5
    have HON : Hid (Ow (NdB 25 w.heap.size) 2 25 w.heap.size w5 v5 (ringC (L.take (k + 1)))) := Lib.hid (by
      rw [HRS.out]
      exact Ow.snoc ndB_grow HPP.out.1 HPP.out.2.1 (fun q hq => ndB_mono _ _ _ _ (HPA.out q hq) HB4.out) hO4 HP.out.symm hgr5 hown5 rfl ⟨_, rfl, ⟨own_sl HT4.out, HTX.out.2⟩, Apart.own HT4.out (by decide)⟩)
    have HB5 := Lib.hid hbel5
    obtain ⟨vo, vc, rfl, -, -, -⟩ := own_shape hown5
    clear hO4 hown5 hgr5 hbel5
    go_wp2_with fail
    go_roundw
    case rel => exact ⟨k + 1, p + 1, by omega, by omega, by go_num, HLN, HON, HB5.out⟩
    case measure => simp [intOf]; omega
end Go.Proofs.Ytcljeedmiobepaa.Nod
