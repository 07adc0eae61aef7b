/-
  The walk of the law GossipSpreads.
-/
import Derived.Test.YtcljeedmiobepaaSpr4
import Derived.BigRegion
namespace Go.Proofs.Ytcljeedmiobepaa.GossipSpreads
open Go.RowKit Go.Gh Go.Proofs.Ytcljeedmiobepaa.Nod Go.Proofs.Ytcljeedmiobepaa.Gos
set_option linter.unusedVariables false
set_option maxHeartbeats 8000000 in
set_option maxRecDepth 100000 in
theorem walk (v0 v1 : Value) (w : World) (h0 : IsLists w v0) (h1 : IsEdges w v1) :
    Calls Try.prog 5 #[v0, v1] w fun e w' => e = .returned (.bool true) ∧ Below w.heap.size w w' := by
  obtain ⟨A, hs⟩ := h0
  obtain ⟨l, ht, hll⟩ := h1
  obtain ⟨ao, c, rfl, hnc, hc⟩ := hs.shape
  obtain ⟨bo, d, rfl, hod, hd⟩ := ht.shape
  obtain ⟨n, hn⟩ : ∃ n, A.length = n := ⟨_, rfl⟩
  obtain ⟨m, hm⟩ : ∃ m, l.length = m := ⟨_, rfl⟩
  rw [hn] at hs hnc ⊢
  rw [hm] at ht hod hll ⊢
  have HN := Lib.hid hn
  have HM := Lib.hid hm
  have HS := Lib.hid hs
  have HT := Lib.hid ht
  clear hn hm hs ht
  go_enter Try.func5, Try.ntmps5
  go_wp2_with fail
  refine (spread_any _ _ A l _ HS.out HT.out).mono ?_
  rintro e w1 hsp
  obtain ⟨hb1, xo, xn, xc, gg, rfl, hsf⟩ := sp_of hsp
  rw [HN.out] at hsf
  have HB1 := Lib.hid hb1
  clear hsp hb1
  rcases hsf with ⟨k1, rfl, rfl⟩ | ⟨hbig, k2, k3⟩
  · go_wp2_with fail
    go_ret
    exact ⟨rfl, HB1.out⟩
  have HK2 := Lib.hid k2
  have HK3 := Lib.hid k3
  clear k2 k3
  go_wp2_with fail
  go_loopw [32] (fun i wr => ∃ k : Nat, k ≤ m ∧ i = .int .i64 k ∧ Hid (∀ (i : Nat) (x : Int × Int), i < k → l[i]? = some x → edB n x = false) ∧ Below w1.heap.size w1 wr) (fun i _ => m - (intOf i).toNat)
  case atStart => exact ⟨0, by omega, rfl, Lib.hid (fun i x hi => absurd hi (by omega)), Below.refl _ _⟩
  case round =>
    obtain ⟨k, hk, rfl, HOK, hbel⟩ := hrel
    have hsz := hbel.size
    have HBR := Lib.hid (HB1.out.trans (hbel.mono HB1.out.size))
    by_cases hlt : k < m
    · obtain ⟨x, hx⟩ : ∃ x, l[k]? = some x := ⟨_, List.getElem?_eq_getElem (by rw [HM.out]; exact hlt)⟩
      obtain ⟨b, off, cs, rfl, rfl, _, hck⟩ := (HT.out.below edR_mono HBR.out).get hx
      have c0 := hck 0 _ rfl
      have c1 := hck 1 _ rfl
      rw [Nat.add_zero] at c0
      have HX := Lib.hid hx
      obtain ⟨xf, xt⟩ := x
      dsimp only at c0 c1
      clear hck hx
      go_upto_region 7 with (fail)
      obtain ⟨wA, hwA⟩ : ∃ wA, wA = wr.alloc (Obj.cells #[.int .i64 xf, .int .i64 xt] 55) := ⟨_, rfl⟩
      have hbox : wA.heap[wr.heap.size]? = some (.cells #[.int .i64 xf, .int .i64 xt] 55 (0, 0)) := by rw [hwA]; exact heap_alloc_new wr _
      have hbA : Below wr.heap.size wr wA := by rw [hwA]; exact (Below.refl _ _).alloc (Nat.le_refl _) _
      rw [← hwA]
      have HBA := Lib.hid (hbel.trans (hbA.mono hsz))
      obtain ⟨⟨d0, d1⟩, -⟩ := bx2 hbox
      generalize wr.heap.size = bx at *
      clear hwA hbox hbA c0 c1
      obtain ⟨D, hD⟩ : ∃ D, edB n (xf, xt) = D := ⟨_, rfl⟩
      have HD := Lib.hid hD
      go_cut [57] (fun t wx => t = .bool D ∧ Below wA.heap.size wA wx)
      case first =>
        unfold edB at hD
        dsimp only at hD
        by_cases h1 : xf < 0
        · have h1' : decide (xf < 0) = true := decide_eq_true h1
          rw [h1'] at hD
          simp at hD
          subst hD
          go_wp2_with fail
          go_meet
          exact ⟨rfl, Below.refl _ _⟩
        by_cases h2 : (n : Int) ≤ xf
        · rw [decide_eq_false h1, decide_eq_true h2] at hD
          simp at hD
          subst hD
          go_wp2_with fail
          go_meet
          exact ⟨rfl, Below.refl _ _⟩
        by_cases h3 : xt < 0
        · rw [decide_eq_false h1, decide_eq_false h2, decide_eq_true h3] at hD
          simp at hD
          subst hD
          go_wp2_with fail
          go_meet
          exact ⟨rfl, Below.refl _ _⟩
        rw [decide_eq_false h1, decide_eq_false h2, decide_eq_false h3] at hD
        simp only [Bool.or_self, Bool.false_or] at hD
        go_wp2_with fail
        go_meet
        exact ⟨rfl, Below.refl _ _⟩
      obtain ⟨rfl, hbc⟩ := hcut
      have hbc2 := HBA.out.trans (hbc.mono HBA.out.size)
      have HBC := Lib.hid (HB1.out.trans (hbc2.mono HB1.out.size))
      clear hbc hD
      cases D with
      | true =>
        obtain ⟨rfl, rfl⟩ := HK2.out k _ HX.out HD.out
        go_wp2_with fail
        go_ret
        exact ⟨rfl, HBC.out⟩
      | false =>
        have HOK2 : Hid (∀ (i : Nat) (x : Int × Int), i < k + 1 → l[i]? = some x → edB n x = false) := Lib.hid (fun i y hi hy => by
          rcases Nat.lt_or_ge i k with h | h
          · exact HOK.out i y h hy
          · obtain rfl : i = k := by omega
            have := HX.out
            rw [this] at hy
            obtain rfl := Option.some.inj hy
            exact HD.out)
        go_wp2_with fail
        go_roundw
        case rel => exact ⟨k + 1, by omega, by go_num, HOK2, hbc2⟩
        case measure => simp [intOf]; omega
    obtain rfl : k = m := by omega
    have HOKA : Hid (∀ (i : Nat) (x : Int × Int), l[i]? = some x → edB n x = false) := Lib.hid (fun i x hx => HOK.out i x (by have := (List.getElem?_eq_some_iff.1 hx).1; have := HM.out; omega) hx)
    have HC := Lib.hid (HK3.out HOKA.out)
    have HN20 : n ≤ 20 := by omega
    obtain ⟨PA, hPA1, hPA2, hPA3, hPA4⟩ := HS.out
    rw [HN.out] at hPA4
    have hone : ∀ u ∈ pc PA, u.oneCell' = true := by
      intro u hu
      obtain ⟨q, hq, hu⟩ := List.mem_flatMap.1 hu
      obtain ⟨va, e1, e2, _⟩ := hPA3 q hq
      rw [e1] at hu
      obtain rfl : u = va := by simpa using hu
      obtain ⟨_, _, rfl, _⟩ := e2.shape
      rfl
    have HPA := Lib.hid (And.intro hPA1 (And.intro hPA2 hPA3))
    clear hPA1 hPA2 hPA3 HOK
    go_wp2_with fail
    refine (clone_ls _ _ (pc PA) _ (hPA4.below HBR.out) hone (by omega)).mono ?_
    rintro e w2 ⟨v2, rfl, hown2, hb2⟩
    have HB2 := Lib.hid (HBR.out.trans (hb2.mono HBR.out.size))
    have hszB := HB1.out.size
    have HB12 : Hid (Below w1.heap.size w1 w2) := Lib.hid (hbel.trans (hb2.mono hbel.size))
    have HW0 : Hid (Ow (LsW w) 1 22 w1.heap.size w2 v2 A) := Lib.hid ⟨PA, HPA.out.1, HPA.out.2.1, fun q hq => by
      obtain ⟨va, e1, e2, e3, e4, _⟩ := HPA.out.2.2 q hq
      exact ⟨va, e1, Or.inl e2, e4⟩, by rw [HN.out]; exact own_mono hown2 hbel.size⟩
    have HC2 : Hid (((spGo A l).2 ≠ 0 ∧ xn = 0 ∧ gg = (spGo A l).2) ∨ ∃ S, spGo A l = (S, 0) ∧ gg = 0 ∧ S.length = n ∧ Sp LsR 1 w1 (.slice xo xn xc) S) := Lib.hid (by
      rcases HC.out with h | ⟨S, h1, h2, h3, h4⟩
      · exact Or.inl h
      · exact Or.inr ⟨S, h1, h2, h3, Sp.weaken h4.sp (fun L c ⟨v, g1, g2, _⟩ => ⟨v, g1, Sp.weaken g2.sp (fun a c h => clB_clR a c h)⟩)⟩)
    obtain ⟨uo, uc, rfl, -, huc, -⟩ := own_shape hown2
    clear hown2 hb2 hPA4 hone HC
    go_wp2_with fail
    go_loopw [70] (fun i wr => ∃ (q : Nat) (S : List (List Cl)), q ≤ k ∧ i = .int .i64 q ∧ Hid (spGo A l = spGo S (l.drop q)) ∧ Hid (S.length = n) ∧ Hid (Ow (LsW w) 1 22 w1.heap.size wr (.slice uo n uc) S) ∧ Below w1.heap.size w1 wr) (fun i _ => k - (intOf i).toNat)
    case atStart => exact ⟨0, A, by omega, rfl, Lib.hid (by rw [List.drop_zero]), HN, HW0, HB12.out⟩
    case round =>
      obtain ⟨q, S, hq, rfl, HG, HSL, HR, hb3⟩ := hrel
      have HB3 := Lib.hid (HB1.out.trans (hb3.mono HB1.out.size))
      by_cases hlt : q < k
      case neg =>
        obtain rfl : q = k := by omega
        have hend : spGo A l = (S, 0) := by rw [HG.out, List.drop_of_length_le (by rw [HM.out]; exact Nat.le_refl _), spGo]
        rcases HC2.out with ⟨h1, _, _⟩ | ⟨S', h1, rfl, h3, h4⟩
        · rw [hend] at h1
          exact absurd rfl h1
        rw [hend] at h1
        obtain rfl : S = S' := congrArg Prod.fst h1
        have HSP := Lib.hid (h4.below lsR_mono hb3)
        have HSW : Hid (Sp LsR 1 wr (.slice uo n uc) S) := Lib.hid (by
          obtain ⟨P, p1, p2, p3, p4⟩ := HR.out
          refine ⟨P, p1, p2, fun x hx => ?_, own_sl p4⟩
          obtain ⟨v, e1, e2⟩ := p3 x hx
          have h5 := p3 x hx
          rw [e1] at h5 ⊢
          exact ⟨v, rfl, clP_clR (lsW_sp h5 HB3.out).1 HB3.out⟩)
        clear hend h1 h3 h4
        go_wp2_with fail
        refine (eqls_any _ _ S _ HSP.out HSW.out).mono ?_
        rintro e w4 ⟨rfl, hb4⟩
        have HB4 := Lib.hid (HB3.out.trans (hb4.mono HB3.out.size))
        go_wp2_with fail
        go_ret
        exact ⟨rfl, HB4.out⟩
      obtain ⟨x, hx⟩ : ∃ x, l[q]? = some x := ⟨_, List.getElem?_eq_getElem (by rw [HM.out]; exact hlt)⟩
      obtain ⟨b, off, cs, rfl, rfl, _, hck⟩ := (HT.out.below edR_mono HB3.out).get hx
      have c0 := hck 0 _ rfl
      have c1 := hck 1 _ rfl
      rw [Nat.add_zero] at c0
      obtain ⟨xf, xt⟩ := x
      dsimp only at c0 c1
      obtain ⟨hf0, hf1, ht0, ht1⟩ := edB_ok (HOKA.out q _ hx)
      dsimp only at hf0 hf1 ht0 ht1
      obtain ⟨f, rfl⟩ : ∃ f : Nat, xf = f := ⟨xf.toNat, by omega⟩
      obtain ⟨t, rfl⟩ : ∃ t : Nat, xt = t := ⟨xt.toNat, by omega⟩
      have hfj : f < n := by omega
      have htj : t < n := by omega
      have hG1 := HG.out
      rw [drop_at' hx] at hG1
      have HG1 := Lib.hid hG1
      obtain ⟨P3, hP1, hP2, hP3, hP4⟩ := HR.out
      rw [HSL.out] at hP4
      obtain ⟨g, cap, e1, hg1, hg2, hg3, hg4, -⟩ := own_some hP4 (by omega)
      simp at e1
      obtain ⟨rfl, rfl⟩ := e1
      clear hck hx hG1 hP1 hP2 hP3 hP4 hf0 hf1 ht0 ht1
      go_upto_region 14 with (fail)
      obtain ⟨wA, hwA⟩ : ∃ wA, wA = wr.alloc (Obj.cells #[.int .i64 (f : Int), .int .i64 (t : Int)] 55) := ⟨_, rfl⟩
      have hbox : wA.heap[wr.heap.size]? = some (.cells #[.int .i64 (f : Int), .int .i64 (t : Int)] 55 (0, 0)) := by rw [hwA]; exact heap_alloc_new wr _
      have hbA : Below wr.heap.size wr wA := by rw [hwA]; exact (Below.refl _ _).alloc (Nat.le_refl _) _
      rw [← hwA]
      have HBA := Lib.hid (hb3.trans (hbA.mono hb3.size))
      have HBAW := Lib.hid (HB1.out.trans (HBA.out.mono HB1.out.size))
      have hszA1 := HBA.out.size
      have HRA := Lib.hid (HR.out.below lsW_mono hbA)
      have hszA := HBAW.out.size
      obtain ⟨bx, hbx⟩ : ∃ bx, wr.heap.size = bx := ⟨_, rfl⟩
      rw [hbx] at hbox hg2 ⊢
      have HBX := Lib.hid hbox
      have hbl : bx < wA.heap.size := (Array.getElem?_eq_some_iff.1 hbox).1
      obtain ⟨⟨d0, d1⟩, -⟩ := bx2 hbox
      obtain ⟨va, a0, -, hla⟩ := wrow_at HRA.out HSL.out hfj
      obtain ⟨vb, b0, -, hlb⟩ := wrow_at HRA.out HSL.out htj
      obtain ⟨a, ha⟩ : ∃ a, S.getD f [] = a := ⟨_, rfl⟩
      obtain ⟨a', ha'⟩ : ∃ a', S.getD t [] = a' := ⟨_, rfl⟩
      rw [ha] at hla
      rw [ha'] at hlb
      obtain ⟨hao, hal⟩ := lsW_sp hla HBAW.out
      obtain ⟨hbo, hbll⟩ := lsW_sp hlb HBAW.out
      have HA1 : Hid (∀ W, Below wA.heap.size wA W → Sp (ClP w) 4 W va a) := Lib.hid (fun W h => hao.below clP_mono h)
      have HA2 : Hid (∀ W, Below wA.heap.size wA W → Sp (ClP w) 4 W vb a') := Lib.hid (fun W h => hbo.below clP_mono h)
      have HW : Hid (∀ W, Below wA.heap.size wA W → Below w.heap.size w W) := Lib.hid (fun W h => HBAW.out.trans (h.mono hszA))
      have HS1 := Lib.hid ha
      have HS2 := Lib.hid ha'
      obtain ⟨ya, yc, rfl, -, -⟩ := hao.shape
      obtain ⟨za, zc, rfl, -, -⟩ := hbo.shape
      have HBD : Hid (∀ W, Below wA.heap.size wA W → W.cell? ⟨bx, 0, none⟩ = some (.int .i64 (f : Int)) ∧ W.cell? ⟨bx, 1, none⟩ = some (.int .i64 (t : Int)) ∧ W.cell? ⟨g, f, none⟩ = some (.slice ya a.length yc) ∧ W.cell? ⟨g, t, none⟩ = some (.slice za a'.length zc)) := Lib.hid (fun W h =>
        ⟨(h.cell (p := ⟨bx, 0, none⟩) (cell_lt d0)).trans d0, (h.cell (p := ⟨bx, 1, none⟩) (cell_lt d0)).trans d1, (h.cell (p := ⟨g, f, none⟩) (cell_lt a0)).trans a0, (h.cell (p := ⟨g, t, none⟩) (cell_lt a0)).trans b0⟩)
      have hR0 := Below.refl wA.heap.size wA
      obtain ⟨E1, hE1⟩ : ∃ E, claimsF a = E := ⟨_, rfl⟩
      have HE1 := Lib.hid hE1
      clear hwA hbox hbA c0 c1 hao hbo hla hlb ha ha' hE1
      go_wp2_with fail
      refine (claimsfault_any _ a _ (clP_clR (HA1.out _ hR0) (HW.out _ hR0))).mono ?_
      rw [HE1.out]
      rintro e w4 ⟨rfl, hb4⟩
      have HB4 := Lib.hid hb4
      obtain ⟨bad, hbad⟩ : ∃ bad, badF a a' = bad := ⟨_, rfl⟩
      have HBAD := Lib.hid hbad
      clear hR0 d0 d1 a0 b0 hb4 hbad
      obtain ⟨d0, d1, a0, b0⟩ := HBD.out _ HB4.out
      go_upto_if 81 with (fail)
      go_cut [12] (fun t wx => t = .int .i64 bad ∧ Below wA.heap.size wA wx)
      case first =>
        by_cases hz : E1 = 0
        · have t1 : (E1 == 0) = true := by rw [beq_iff_eq]; exact hz
          have HBE : Hid (claimsF a' = bad) := Lib.hid (by have := HBAD.out; unfold badF at this; rw [HE1.out, if_pos hz] at this; exact this)
          clear hz
          go_wp2_with fail
          refine (claimsfault_any _ a' _ (clP_clR (HA2.out _ HB4.out) (HW.out _ HB4.out))).mono ?_
          rw [HBE.out]
          rintro e w5 ⟨rfl, hb5⟩
          have HB5 := Lib.hid (HB4.out.trans (hb5.mono HB4.out.size))
          clear hb5
          go_wp2_with fail
          go_meet
          exact ⟨rfl, HB5.out⟩
        · have t1 : (E1 == 0) = false := beq_eq_false_iff_ne.2 hz
          have HBE : Hid (E1 = bad) := Lib.hid (by have := HBAD.out; unfold badF at this; rw [HE1.out, if_neg hz] at this; exact this)
          clear hz
          go_wp2_with fail
          go_meet
          exact ⟨by rw [HBE.out], HB4.out⟩
      obtain ⟨rfl, hbc⟩ := hcut
      have HBC := Lib.hid hbc
      obtain ⟨w5, rfl⟩ : ∃ x, x = wc := ⟨_, rfl⟩
      clear hbc d0 d1 a0 b0
      have z0 := HBD.out _ HBC.out.drew
      obtain ⟨f0, hf0, hf1, hf2⟩ := exists_bound2 a a'
      have HF0 := Lib.hid hf0
      have HF1 := Lib.hid hf1
      have HF2 := Lib.hid hf2
      clear hf0 hf1 hf2
      go_upto_region 17 with (fail)
      go_region_held3 (fun w' => w'.cell? ⟨bx, 0, none⟩ = some (.int .i64 (f : Int)) ∧ w'.cell? ⟨bx, 1, none⟩ = some (.int .i64 (t : Int)) ∧ w'.cell? ⟨g, f, none⟩ = some (.slice ya a.length yc) ∧ w'.cell? ⟨g, t, none⟩ = some (.slice za a'.length zc)) (first | (with_reducible exact z1) | (with_reducible exact z0) | go_keep) (first
        | (go_at_call 22; refine (claimsmerged_own f0 _ _ a a' w _ (HW.out _ HBC.out.drew) (HA1.out _ HBC.out.drew) (HA2.out _ HBC.out.drew) HF0.out HF1.out (by unfold Fit; omega) (by omega)).mono ?_; rintro e w6 ⟨v6, rfl, hown6, hb6⟩; have HO6 := Lib.hid (hown6.mono (HW.out _ HBC.out.drew).size); have HB6 : Hid (Below wA.heap.size wA w6) := Lib.hid (HBC.out.drew.trans (hb6.mono HBC.out.drew.size)); have z1 := HBD.out _ HB6.out; clear hb6 hown6))
      all_goals
        obtain ⟨M, hM⟩ : ∃ M, besG (kf f0) newC a a' = M := ⟨_, rfl⟩
        rw [hM] at HO6
        obtain ⟨N, hN⟩ : ∃ N, M.length = N := ⟨_, rfl⟩
        have HNN := Lib.hid hN
        have hshape := HO6.out.shape
        rw [hN] at hshape
        obtain ⟨mo, mc, rfl, hmc, hmc2⟩ := hshape
        have HW6 := Lib.hid (HW.out _ HB6.out)
        have HSTOP : Hid (∀ E : Int, E ≠ 0 → clMerge a a' = ([], E) → xn = 0 ∧ gg = E) := Lib.hid (fun E hE hm => by
          have hst : spGo A l = ([], E) := by
            have hnz : (clMerge a a').2 ≠ 0 := by rw [hm]; exact hE
            rw [HG1.out, spGo_stop (by simp only [Int.toNat_natCast]; rw [HS1.out, HS2.out]; exact hnz)]
            simp only [Int.toNat_natCast]
            rw [HS1.out, HS2.out, hm]
          rcases HC2.out with ⟨h1, h2, h3⟩ | ⟨S', h1, _⟩
          · exact ⟨h2, by rw [h3, hst]⟩
          · rw [hst] at h1
            exact absurd (congrArg Prod.snd h1) hE)
        by_cases hz : bad = 0
        case neg =>
          have t1 : (bad == 0) = false := beq_eq_false_iff_ne.2 hz
          have t2 : (bad != 0) = true := by rw [bne_iff_ne]; exact hz
          have t3 : (bad == bad) = true := by simp
          obtain ⟨rfl, rfl⟩ := HSTOP.out bad hz (by rw [← HBAD.out]; exact badF_merge (by rw [HBAD.out]; exact hz))
          clear hz hM hN
          go_wp2_with fail
          go_ret
          exact ⟨rfl, HW6.out⟩
        subst hz
        have hok := badF_ok HBAD.out
        have t1 : ((0 : Int) == 0) = true := rfl
        have hf20 := HF2.out hok.1 hok.2
        have hMM : M = mrgC a a' := by rw [← hM, hf20]; exact bes_mrgC hok.1 hok.2
        have HOKM := Lib.hid hok
        have HMM := Lib.hid hMM
        clear hok hf20 hMM hM hN
        by_cases hbigM : 20 < N
        · obtain ⟨rfl, rfl⟩ := HSTOP.out 2 (by decide) (by unfold clMerge; rw [if_pos HOKM.out.1, if_pos HOKM.out.2, if_pos (by rw [← HMM.out, HNN.out]; exact hbigM)])
          have t2 : ((2 : Int) != 0) = true := rfl
          have t3 : ((2 : Int) == 2) = true := rfl
          go_wp2_with fail
          go_ret
          exact ⟨rfl, HW6.out⟩
        have t2 : ((0 : Int) != 0) = false := rfl
        have HGO : Hid (spGo A l = spGo ((S.set f M).set t M) (l.drop (q + 1))) := Lib.hid (by
          rw [HG1.out, spGo_on (by
            simp only [Int.toNat_natCast]
            rw [HS1.out, HS2.out]
            unfold clMerge
            rw [if_pos HOKM.out.1, if_pos HOKM.out.2, if_neg (by rw [← HMM.out, HNN.out]; exact hbigM)])]
          simp only [Int.toNat_natCast]
          rw [HS1.out, HS2.out, ← HMM.out])
        have HR6 := HRA.out.below lsW_mono HB6.out
        have lM : LsW w w6 M [.slice mo N mc] := ⟨_, rfl, Or.inr HO6.out, by rw [HNN.out]; omega⟩
        obtain ⟨hR7, lM7⟩ := wrow_set HR6 HSL.out hfj lM
        have hl7 : (S.set f M).length = n := by rw [List.length_set]; exact HSL.out
        obtain ⟨hR8, -⟩ := wrow_set hR7 hl7 htj lM7
        have hl8 : ((S.set f M).set t M).length = n := by rw [List.length_set]; exact hl7
        have HL8 := Lib.hid hl8
        have HR8 := Lib.hid hR8
        have HB8 : Hid (Below w1.heap.size w1 ((w6.setCell ⟨g, f, none⟩ (.slice mo N mc)).setCell ⟨g, t, none⟩ (.slice mo N mc))) := Lib.hid (((HBA.out.trans (HB6.out.mono hszA1)).setCell (p := ⟨g, f, none⟩) hg1 _).setCell (p := ⟨g, t, none⟩) hg1 _)
        obtain ⟨_, -, ff, -⟩ := wrow_at HR6 HSL.out hfj
        obtain ⟨_, -, ft, -⟩ := wrow_at HR6 HSL.out htj
        obtain ⟨vt, et7, ft7, -⟩ := wrow_at hR7 hl7 htj
        obtain ⟨d0, d1, a0, b0⟩ := z1
        have hne : bx ≠ g := by omega
        have hi1 : (0 : Int) ≤ (f : Int) := by omega
        have hi2 : (f : Int) < (n : Int) := by omega
        have hi3 : (0 : Int) ≤ (t : Int) := by omega
        have hi4 : (t : Int) < (n : Int) := by omega
        clear hR7 lM7 hl7 hR8 hl8 HR6 lM z0
        go_upto_region 22 with (fail)
        go_region
        all_goals
          go_wp2
          go_roundw
          case rel =>
            have hdr := Below.refl ((w6.setCell ⟨g, f, none⟩ (.slice mo N mc)).setCell ⟨g, t, none⟩ (.slice mo N mc)).heap.size ((w6.setCell ⟨g, f, none⟩ (.slice mo N mc)).setCell ⟨g, t, none⟩ (.slice mo N mc))
            exact ⟨q + 1, _, by omega, by go_num, HGO, HL8, Lib.hid (HR8.out.below lsW_mono hdr.drew), HB8.out.drew⟩
          case measure => simp [intOf]; omega
end Go.Proofs.Ytcljeedmiobepaa.GossipSpreads
