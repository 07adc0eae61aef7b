/-
  The walk of the law ClaimTells.
-/
import Derived.Test.YtcljeedmiobepaaClMerge
import Derived.Test.YtcljeedmiobepaaClm2
import Derived.Test.YtcljeedmiobepaaClMerged
import Derived.Test.YtcljeedmiobepaaClRing
import Derived.Test.YtcljeedmiobepaaSameNd
namespace Go.Proofs.Ytcljeedmiobepaa.ClaimTells
open Go.RowKit Go.Gh Go.Proofs.Ytcljeedmiobepaa.Nod
set_option linter.unusedVariables false
def NdO (w0 : World) (_ : World) (x : Nd) (c : List Value) : Prop := NdR w0 x c
theorem ndO_mono {w0 : World} : Mono (NdO w0) := fun w w' a c h _ => h
theorem ndO_grow {w0 : World} {T : TypeId} {k B : Nat} : Grow (NdO w0) T k B := fun w w' a c u m us h _ _ => h
theorem merge_cases {a b : List Cl} (ha : claimsF a = 0) : clMerge a b = if claimsF b = 0 then if 20 < (besG (kf 20) newC a b).length then ([], 2) else (besG (kf 20) newC a b, 0) else ([], claimsF b) := by
  unfold clMerge
  rw [if_pos ha]
  by_cases hb : claimsF b = 0
  · rw [if_pos hb, if_pos hb, ← bes_mrgC ha hb]
    rfl
  · rw [if_neg hb, if_neg hb]
set_option maxHeartbeats 8000000 in
set_option maxRecDepth 100000 in
theorem walk (v0 v1 v2 v3 : Value) (w : World) (h0 : IsClaims w v0) (h1 : IsClaims w v1) (h2 : IsClaim w v2) (h3 : IsClaim w v3) :
    Calls Try.prog 3 #[v0, v1, v2, v3] w fun e w' => e = .returned (.bool true) ∧ Below w.heap.size w w' := by
  obtain ⟨A, hA⟩ := h0
  obtain ⟨B, hB⟩ := h1
  obtain ⟨x, tx, rfl, hx⟩ := h2
  obtain ⟨y, ty, rfl, hy⟩ := h3
  obtain ⟨ao, c, rfl, hnc, hc⟩ := hA.shape
  obtain ⟨bo, d, rfl, hod, hd⟩ := hB.shape
  obtain ⟨n, hn⟩ : ∃ n, A.length = n := ⟨_, rfl⟩
  obtain ⟨o, ho⟩ : ∃ o, B.length = o := ⟨_, rfl⟩
  rw [hn] at hA hnc ⊢
  rw [ho] at hB hod ⊢
  have HNA := Lib.hid hn
  have HNB := Lib.hid ho
  have HA := Lib.hid hA
  have HB := Lib.hid hB
  have HX := Lib.hid hx
  have HY := Lib.hid hy
  obtain ⟨xa, xc, rfl, -, -, -⟩ := hx.1.shape
  obtain ⟨ya, yc, rfl, -, -, -⟩ := hy.1.shape
  obtain ⟨E1, hE1⟩ : ∃ E, claimsF A = E := ⟨_, rfl⟩
  obtain ⟨R1, hR1⟩ : ∃ R, clMerge A B = R := ⟨_, rfl⟩
  obtain ⟨R2, hR2⟩ : ∃ R, clRing A = R := ⟨_, rfl⟩
  obtain ⟨N, hN⟩ : ∃ N, newerC x y = N := ⟨_, rfl⟩
  have HE1 := Lib.hid hE1
  have HR1 := Lib.hid hR1
  have HR2 := Lib.hid hR2
  have HN := Lib.hid hN
  obtain ⟨m1, e1⟩ := R1
  obtain ⟨m2, e2⟩ := R2
  clear hn ho hA hB hx hy hE1 hR1 hR2 hN
  go_enter Try.func3, Try.ntmps3
  go_wp2_with fail
  obtain ⟨wA, hwA⟩ : ∃ wA, wA = (w.alloc (Obj.cells #[.int .i64 x.ver, .int .i64 x.st, .string x.nm, .slice xa x.tk.length xc] 27)).alloc (Obj.cells #[.int .i64 y.ver, .int .i64 y.st, .string y.nm, .slice ya y.tk.length yc] 27) := ⟨_, rfl⟩
  have hb1 : wA.heap[w.heap.size]? = some (.cells #[.int .i64 x.ver, .int .i64 x.st, .string x.nm, .slice xa x.tk.length xc] 27 (0, 0)) := by rw [hwA]; exact two_first w _ _
  have hb2 : wA.heap[w.heap.size + 1]? = some (.cells #[.int .i64 y.ver, .int .i64 y.st, .string y.nm, .slice ya y.tk.length yc] 27 (0, 0)) := by rw [hwA]; exact two_second w _ _
  have hBA : Below w.heap.size w wA := by rw [hwA]; exact ((Below.refl _ _).alloc (Nat.le_refl _) _).alloc (by simp) _
  rw [← hwA]
  have HB1 := Lib.hid hb1
  have HB2 := Lib.hid hb2
  have HBA := Lib.hid hBA
  have hl1 : w.heap.size < wA.heap.size := (Array.getElem?_eq_some_iff.1 hb1).1
  have hl2 : w.heap.size + 1 < wA.heap.size := (Array.getElem?_eq_some_iff.1 hb2).1
  clear hwA hb1 hb2 hBA
  refine (clmerge_any _ _ A B _ (HA.out.below clR_mono HBA.out) (HB.out.below clR_mono HBA.out)).mono ?_
  rw [HR1.out]
  rintro e w1 ⟨va, rfl, HO1, hb1⟩
  have HOW1 := Lib.hid HO1
  have HBW1 := Lib.hid (HBA.out.trans (hb1.mono (Nat.le_of_lt hl1)))
  have HBX1 := Lib.hid hb1
  obtain ⟨ma, mc, rfl, -, -⟩ := HO1.shape
  clear HO1 hb1
  go_wp2_with fail
  refine (clring_any _ A _ (HA.out.below clR_mono HBW1.out)).mono ?_
  rw [HR2.out]
  rintro e w2 ⟨vb, rfl, HO2, hb2⟩
  have HOW2 := Lib.hid HO2
  have HBW2 := Lib.hid (HBW1.out.trans (hb2.mono HBW1.out.size))
  have HBX2 := Lib.hid (HBX1.out.trans (hb2.mono HBX1.out.size))
  have HOW12 := Lib.hid (HOW1.out.below clB_mono hb2)
  obtain ⟨na, nc, rfl, -, -⟩ := HO2.shape
  clear HO2 hb2 HOW1
  go_wp2_with fail
  refine (claimsfault_any _ A _ (HA.out.below clR_mono HBW2.out)).mono ?_
  rw [HE1.out]
  rintro e w3 ⟨rfl, hb3⟩
  have HBW3 := Lib.hid (HBW2.out.trans (hb3.mono HBW2.out.size))
  have HBX3 := Lib.hid (HBX2.out.trans (hb3.mono HBX2.out.size))
  have HOW13 := Lib.hid (HOW12.out.below clB_mono hb3)
  have HOW23 := Lib.hid (HOW2.out.below ndB_mono hb3)
  have tn : (N != N) = false := by simp
  have te : (E1 != E1) = false := by simp
  have tee : (E1 == E1) = true := by simp
  clear hb3 HOW12 HOW2
  go_upto_region 4 with (fail)
  go_cut [43] (fun t wx => t = .bool false ∧ Below w3.heap.size w3 wx)
  case first =>
    have h1 := (HBX3.out.block _ hl1).trans HB1.out
    have h2 := (HBX3.out.block _ hl2).trans HB2.out
    obtain ⟨⟨a0, a1, a2, a3⟩, -⟩ := bx4 h1
    obtain ⟨⟨b0, b1, b2, b3⟩, -⟩ := bx4 h2
    clear h1 h2
    have hx3 := cell_lt a0
    have hy3 := cell_lt b0
    have HVX : Hid (∀ W, Below w3.heap.size w3 W → ClV W (.agg #[.int .i64 x.ver, .int .i64 x.st, .string x.nm, .slice xa x.tk.length xc]) x) := Lib.hid (fun W h => ⟨_, rfl, (HX.out.below HBW3.out).below h⟩)
    have HVY : Hid (∀ W, Below w3.heap.size w3 W → ClV W (.agg #[.int .i64 y.ver, .int .i64 y.st, .string y.nm, .slice ya y.tk.length yc]) y) := Lib.hid (fun W h => ⟨_, rfl, (HY.out.below HBW3.out).below h⟩)
    have HAS : Hid (∀ W, Below w3.heap.size w3 W → Sp ClR 4 W (.slice ao n c) A) := Lib.hid (fun W h => (HA.out.below clR_mono HBW3.out).below clR_mono h)
    have HBD : Hid (∀ W, Below w3.heap.size w3 W → W.cell? ⟨w.heap.size, 0, none⟩ = some (.int .i64 x.ver) ∧ W.cell? ⟨w.heap.size, 1, none⟩ = some (.int .i64 x.st) ∧ W.cell? ⟨w.heap.size, 2, none⟩ = some (.string x.nm) ∧ W.cell? ⟨w.heap.size, 3, none⟩ = some (.slice xa x.tk.length xc) ∧ W.cell? ⟨w.heap.size + 1, 0, none⟩ = some (.int .i64 y.ver) ∧ W.cell? ⟨w.heap.size + 1, 1, none⟩ = some (.int .i64 y.st) ∧ W.cell? ⟨w.heap.size + 1, 2, none⟩ = some (.string y.nm) ∧ W.cell? ⟨w.heap.size + 1, 3, none⟩ = some (.slice ya y.tk.length yc)) := Lib.hid (fun W h =>
      ⟨(h.cell (p := ⟨w.heap.size, 0, none⟩) hx3).trans a0, (h.cell (p := ⟨w.heap.size, 1, none⟩) hx3).trans a1, (h.cell (p := ⟨w.heap.size, 2, none⟩) hx3).trans a2, (h.cell (p := ⟨w.heap.size, 3, none⟩) hx3).trans a3, (h.cell (p := ⟨w.heap.size + 1, 0, none⟩) hy3).trans b0, (h.cell (p := ⟨w.heap.size + 1, 1, none⟩) hy3).trans b1, (h.cell (p := ⟨w.heap.size + 1, 2, none⟩) hy3).trans b2, (h.cell (p := ⟨w.heap.size + 1, 3, none⟩) hy3).trans b3⟩)
    have HD : Hid (Below w3.heap.size w3 w3.drew) := Lib.hid (Below.refl _ _).drew
    clear a0 a1 a2 a3 b0 b1 b2 b3
    have z0 := HBD.out _ HD.out
    go_region_held3 (fun w' => w'.cell? ⟨w.heap.size, 0, none⟩ = some (.int .i64 x.ver) ∧ w'.cell? ⟨w.heap.size, 1, none⟩ = some (.int .i64 x.st) ∧ w'.cell? ⟨w.heap.size, 2, none⟩ = some (.string x.nm) ∧ w'.cell? ⟨w.heap.size, 3, none⟩ = some (.slice xa x.tk.length xc) ∧ w'.cell? ⟨w.heap.size + 1, 0, none⟩ = some (.int .i64 y.ver) ∧ w'.cell? ⟨w.heap.size + 1, 1, none⟩ = some (.int .i64 y.st) ∧ w'.cell? ⟨w.heap.size + 1, 2, none⟩ = some (.string y.nm) ∧ w'.cell? ⟨w.heap.size + 1, 3, none⟩ = some (.slice ya y.tk.length yc)) (first | (with_reducible exact z3) | (with_reducible exact z2) | (with_reducible exact z1) | (with_reducible exact z0) | go_keep) (first
      | (go_at_call 18; refine (newer_any _ _ x y _ (HVX.out _ (by first | exact HD.out | exact HD2.out)) (HVY.out _ (by first | exact HD.out | exact HD2.out))).mono ?_; rw [HN.out]; rintro e w4 ⟨rfl, hb4⟩; have HD1 : Hid (Below w3.heap.size w3 w4) := Lib.hid (by first | exact HD.out.trans (hb4.mono HD.out.size) | exact HD2.out.trans (hb4.mono HD2.out.size)); have z1 := HBD.out _ HD1.out; clear hb4)
      | (go_at_call 19; refine (newerthan_any _ _ x y _ (HVX.out _ (by first | exact HD.out | exact HD1.out)) (HVY.out _ (by first | exact HD.out | exact HD1.out))).mono ?_; rw [HN.out]; rintro e w5 ⟨rfl, hb5⟩; have HD2 : Hid (Below w3.heap.size w3 w5) := Lib.hid (by first | exact HD.out.trans (hb5.mono HD.out.size) | exact HD1.out.trans (hb5.mono HD1.out.size)); have z2 := HBD.out _ HD2.out; clear hb5)
      | (go_at_call 20; refine (clcheck_any _ A _ (HAS.out _ (by first | exact HD1.out | exact HD2.out))).mono ?_; rw [HE1.out]; rintro e w6 ⟨rfl, hb6⟩; have HD3 : Hid (Below w3.heap.size w3 w6) := Lib.hid (by first | exact HD1.out.trans (hb6.mono HD1.out.size) | exact HD2.out.trans (hb6.mono HD2.out.size)); have z3 := HBD.out _ HD3.out; clear hb6))
    all_goals
      go_wp2
      go_meet
      exact ⟨rfl, HD3.out⟩
  obtain ⟨rfl, hbc⟩ := hcut
  obtain ⟨wq, rfl⟩ : ∃ x, x = wc := ⟨_, rfl⟩
  have HBWc := Lib.hid (HBW3.out.trans (hbc.mono HBW3.out.size))
  have HOW1c := Lib.hid (HOW13.out.below clB_mono hbc)
  have HOW2c := Lib.hid (HOW23.out.below ndB_mono hbc)
  clear hbc HOW13 HOW23
  by_cases hz : E1 = 0
  case neg =>
    have t1 : (E1 != 0) = true := by rw [bne_iff_ne]; exact hz
    have h1 : clMerge A B = ([], E1) := by unfold clMerge; rw [HE1.out, if_neg hz]
    have h2 : clRing A = ([], E1) := by unfold clRing; rw [HE1.out, if_neg hz]
    rw [HR1.out] at h1
    rw [HR2.out] at h2
    obtain ⟨rfl, rfl⟩ := Prod.mk.injEq .. ▸ h1
    obtain ⟨rfl, rfl⟩ := Prod.mk.injEq .. ▸ h2
    clear hz h1 h2
    go_wp2_with fail
    go_ret
    exact ⟨rfl, HBWc.out⟩
  subst hz
  have hca := claims_zero HE1.out
  have hn20 : n ≤ 20 := by have := hca.1; rw [HNA.out] at this; exact this
  have HGA : Hid (Nod.Good A) := Lib.hid (good_of HE1.out)
  have h2 : clRing A = (ringC A, 0) := by unfold clRing; rw [HE1.out, if_pos rfl]
  rw [HR2.out] at h2
  obtain ⟨rfl, rfl⟩ := Prod.mk.injEq .. ▸ h2
  have h1 := merge_cases (b := B) HE1.out
  rw [HR1.out] at h1
  have HM := Lib.hid h1
  clear h1 h2 hca HR2 HR1
  go_wp2_with fail
  go_loopw [14, 66] (fun u i wr => ∃ (k p : Nat), k ≤ n ∧ p ≤ k ∧ i = .int .i64 k ∧ Hid ((ringC (A.take k)).length = p) ∧ Hid (Ow (NdO w) 2 25 wq.heap.size wr u (ringC (A.take k))) ∧ Below wq.heap.size wq wr) (fun _ i _ => n - (intOf i).toNat)
  case atStart => exact ⟨0, 0, Nat.zero_le _, Nat.le_refl _, rfl, Lib.hid rfl, Lib.hid Ow.nil, Below.refl _ _⟩
  case round =>
    obtain ⟨k, p, hk, hpk, rfl, HP, HO, hbel⟩ := hrel
    have hsz := hbel.size
    have HBWr := Lib.hid (HBWc.out.trans (hbel.mono HBWc.out.size))
    by_cases hlt : k < n
    · obtain ⟨z, hzk⟩ : ∃ z, A[k]? = some z := ⟨_, List.getElem?_eq_getElem (by rw [HNA.out]; exact hlt)⟩
      obtain ⟨b, off, cs, rfl, ⟨t, rfl, htz⟩, _, hck⟩ := HA.out.get hzk
      have HZ := Lib.hid hzk
      have hlt0 := cell_lt (hck 0 _ rfl)
      have c0 := (HBWr.out.cell (p := ⟨b, off + k * 4 + 0, none⟩) hlt0).trans (hck 0 _ rfl)
      have c1 := (HBWr.out.cell (p := ⟨b, off + k * 4 + 1, none⟩) hlt0).trans (hck 1 _ rfl)
      have c2 := (HBWr.out.cell (p := ⟨b, off + k * 4 + 2, none⟩) hlt0).trans (hck 2 _ rfl)
      have c3 := (HBWr.out.cell (p := ⟨b, off + k * 4 + 3, none⟩) hlt0).trans (hck 3 _ rfl)
      rw [Nat.add_zero] at c0
      have HTZ := Lib.hid htz
      obtain ⟨ta, tc, rfl, -, -, -⟩ := htz.1.shape
      obtain ⟨uo, uc, rfl, hu1, hu2⟩ := Sp.shapeN HO.out.sp HP.out
      obtain ⟨P, hP1, hP2, hP3, hP4⟩ := HO.out
      rw [HP.out] at hP4
      have HPP := Lib.hid (And.intro hP1 (And.intro hP2 hP3))
      have HOW := Lib.hid hP4
      clear hck hzk htz hP1 hP2 hP3 hP4
      go_upto_region 12 with (fail)
      obtain ⟨wA2, hwA⟩ : ∃ wA2, wA2 = wr.alloc (Obj.cells #[.int .i64 z.ver, .int .i64 z.st, .string z.nm, .slice ta z.tk.length tc] 27) := ⟨_, rfl⟩
      have hbox : wA2.heap[wr.heap.size]? = some (.cells #[.int .i64 z.ver, .int .i64 z.st, .string z.nm, .slice ta z.tk.length tc] 27 (0, 0)) := by rw [hwA]; exact heap_alloc_new wr _
      have hbA : Below wr.heap.size wr wA2 := by rw [hwA]; exact (Below.refl _ _).alloc (Nat.le_refl _) _
      rw [← hwA]
      have HBA2 := Lib.hid (hbel.trans (hbA.mono hsz))
      have HOA : Hid (wA2.ownsRow wq.heap.size 25 2 (.slice uo p uc) p (pc P)) := Lib.hid (own_below HOW.out hbA)
      obtain ⟨⟨d0, d1, d2, d3⟩, -⟩ := bx4 hbox
      generalize wr.heap.size = bx at *
      clear hwA hbox hbA c0 c1 c2 c3
      by_cases hl : live z = true
      case neg =>
        have hl : live z = false := by simpa using hl
        have h2 : (z.st == 2) = false := by unfold live at hl; simp at hl; exact beq_eq_false_iff_ne.2 hl.1
        have h3 : (z.st == 3) = false := by unfold live at hl; simp at hl; exact beq_eq_false_iff_ne.2 hl.2
        have hrs := ringC_skip HZ.out hl
        have HP2 : Hid ((ringC (A.take (k + 1))).length = p) := Lib.hid (by rw [hrs]; exact HP.out)
        have HO2 : Hid (Ow (NdO w) 2 25 wq.heap.size wA2 (.slice uo p uc) (ringC (A.take (k + 1)))) := Lib.hid (by rw [hrs]; exact ⟨P, HPP.out.1, HPP.out.2.1, HPP.out.2.2, by rw [HP.out]; exact HOA.out⟩)
        clear hl hrs
        go_wp2_with fail
        go_roundw
        case rel => exact ⟨k + 1, p, by omega, by omega, by go_num, HP2, HO2, HBA2.out⟩
        case measure => simp [intOf]; omega
      have hrs := ringC_take HZ.out hl
      have HRS := Lib.hid hrs
      have HLN : Hid ((ringC (A.take (k + 1))).length = p + 1) := Lib.hid (by rw [hrs, List.length_append, HP.out]; rfl)
      have h23 : z.st = 2 ∨ z.st = 3 := by unfold live at hl; simpa using hl
      clear hl hrs
      go_cut [77] (fun t wx => t = .bool true ∧ wx = wA2)
      case first =>
        rcases h23 with h2 | h2
        · have t2 : (z.st == 2) = true := by rw [h2]; rfl
          clear h2
          go_wp2_with fail
          go_meet
          exact ⟨rfl, rfl⟩
        · have t2 : (z.st == 2) = false := by rw [h2]; rfl
          have t3 : (z.st == 3) = true := by rw [h2]; rfl
          clear h2
          go_wp2_with fail
          go_meet
          exact ⟨rfl, rfl⟩
      obtain ⟨rfl, hwc⟩ := hcut
      subst hwc
      have hO4 := HOA.out
      clear h23
      go_wp2_with (at_builtin; refine append1 [.string z.nm, .slice ta z.tk.length tc] elNd rfl _ _ rfl hO4 HBA2.out HBA2.out.size rfl rfl rfl (by intro x hx; simp at hx; rcases hx with rfl | rfl <;> rfl) ?c4 ?c5 ?_)
      case c4 => omega
      case c5 => omega
      intro v5 w5 hown5 hbel5 hgr5
      have HON : Hid (Ow (NdO w) 2 25 wq.heap.size w5 v5 (ringC (A.take (k + 1)))) := Lib.hid (by
        rw [HRS.out]
        have hp3 : ∀ q ∈ P, NdO w wc q.1 q.2 := HPP.out.2.2
        exact Ow.snoc ndO_grow HPP.out.1 HPP.out.2.1 hp3 hO4 HP.out.symm hgr5 hown5 rfl ⟨_, rfl, HTZ.out⟩)
      have HB5 := Lib.hid hbel5
      obtain ⟨vo, vc, rfl, -, -, -⟩ := own_shape hown5
      clear hO4 hown5 hgr5 hbel5
      go_wp2_with fail
      go_roundw
      case rel => exact ⟨k + 1, p + 1, by omega, by omega, by go_num, HLN, HON, HB5.out⟩
      case measure => simp [intOf]; omega
    obtain rfl : k = n := by omega
    have HSN2 : Hid (Sp NdR 2 wr u14 (ringC A)) := Lib.hid (by
      have h := HO.out.sp
      rw [List.take_of_length_le (by rw [HNA.out]; exact Nat.le_refl _)] at h
      obtain ⟨P, h1, h2, h3, h4⟩ := h
      exact ⟨P, h1, h2, fun q hq => ndR_mono _ _ _ _ (h3 q hq) HBWr.out, h4⟩)
    have HSN1 := Lib.hid (Sp.weaken ((HOW2c.out.below ndB_mono hbel).sp) (fun a c h => ndB_ndR a c h))
    have HOM := Lib.hid (HOW1c.out.below clB_mono hbel)
    clear HO HOW2c HOW1c hbel
    go_wp2_with fail
    refine (samenodes_any _ _ (ringC A) _ HSN1.out HSN2.out).mono ?_
    rintro e w6 ⟨rfl, hb6⟩
    have HBW6 := Lib.hid (HBWr.out.trans (hb6.mono HBWr.out.size))
    have HOM6 := Lib.hid (HOM.out.below clB_mono hb6)
    clear hb6 HOM
    obtain ⟨E2, hE2⟩ : ∃ E, claimsF B = E := ⟨_, rfl⟩
    have HE2 := Lib.hid hE2
    have h1 := HM.out
    rw [hE2] at h1
    clear hE2 HM
    go_wp2_with fail
    refine (claimsfault_any _ B _ (HB.out.below clR_mono HBW6.out)).mono ?_
    rw [HE2.out]
    rintro e w7 ⟨rfl, hb7⟩
    have HBW7 := Lib.hid (HBW6.out.trans (hb7.mono HBW6.out.size))
    have HOM7 := Lib.hid (HOM6.out.below clB_mono hb7)
    clear hb7 HOM6
    by_cases hz : E2 = 0
    case neg =>
      have t1 : (E2 != 0) = true := by rw [bne_iff_ne]; exact hz
      have t2 : (E2 == E2) = true := by simp
      rw [if_neg hz] at h1
      obtain ⟨rfl, rfl⟩ := Prod.mk.injEq .. ▸ h1
      clear hz h1
      go_wp2_with fail
      go_ret
      exact ⟨rfl, HBW7.out⟩
    subst hz
    rw [if_pos rfl] at h1
    have ho20 : o ≤ 20 := by have := (claims_zero HE2.out).1; rw [HNB.out] at this; exact this
    have HGB : Hid (Nod.Good B) := Lib.hid (good_of HE2.out)
    have HM1 := Lib.hid h1
    clear h1
    go_wp2_with fail
    refine (claimsmerged_any 20 _ _ A B _ (HA.out.below clR_mono HBW7.out) (HB.out.below clR_mono HBW7.out) (fun c hc => (HGA.out c hc).1) (fun c hc => (HGB.out c hc).1) (by rw [HNA.out, HNB.out]; omega)).mono ?_
    rintro e w8 ⟨vd, rfl, HSW, hb8⟩
    have HBW8 := Lib.hid (HBW7.out.trans (hb8.mono HBW7.out.size))
    have HOM8 := Lib.hid (HOM7.out.below clB_mono hb8)
    have h1 := HM1.out
    clear hb8 HOM7 HM1
    obtain ⟨W, hW⟩ : ∃ W, besG (kf 20) newC A B = W := ⟨_, rfl⟩
    rw [hW] at h1 HSW
    clear hW
    obtain ⟨wo, wd, rfl, hwl, hwc⟩ := HSW.shape
    by_cases hbig : 20 < W.length
    · rw [if_pos hbig] at h1
      obtain ⟨rfl, rfl⟩ := Prod.mk.injEq .. ▸ h1
      clear h1 HSW
      go_wp2_with fail
      go_ret
      exact ⟨rfl, HBW8.out⟩
    · rw [if_neg hbig] at h1
      obtain ⟨rfl, rfl⟩ := Prod.mk.injEq .. ▸ h1
      have HSW := Lib.hid HSW
      clear h1
      go_wp2_with fail
      refine (sameclaims_any _ _ m1 _ (Sp.weaken HOM8.out.sp (fun a c h => clB_clR a c h)) HSW.out).mono ?_
      rintro e w9 ⟨rfl, hb9⟩
      have HBW9 := Lib.hid (HBW8.out.trans (hb9.mono HBW8.out.size))
      clear hb9
      go_wp2_with fail
      go_ret
      exact ⟨rfl, HBW9.out⟩
end Go.Proofs.Ytcljeedmiobepaa.ClaimTells
