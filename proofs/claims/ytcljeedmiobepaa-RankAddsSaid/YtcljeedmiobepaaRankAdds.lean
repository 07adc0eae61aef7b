/-
  The walk of the law RankAdds.
-/
import Derived.Test.YtcljeedmiobepaaRk16
import Derived.Test.YtcljeedmiobepaaRk6
namespace Go.Proofs.Ytcljeedmiobepaa.RankAdds
open Go.RowKit Go.Gh Go.Proofs.Ytcljeedmiobepaa.Rk
set_option linter.unusedVariables false
/-- What stands in memory behind the two calls. -/
structure St (w : World) (b7 b9 : Nat) (x4 x7 x9 : Obj) (wx : World) : Prop where
  q4 : wx.heap[w.heap.size]? = some x4
  q7 : wx.heap[b7]? = some x7
  q9 : wx.heap[b9]? = some x9
  bel : Below w.heap.size w wx
theorem St.below {w : World} {b7 b9 : Nat} {x4 x7 x9 : Obj} {wx wy : World} (h : St w b7 b9 x4 x7 x9 wx) (hb : Below wx.heap.size wx wy) : St w b7 b9 x4 x7 x9 wy :=
  ⟨(hb.block _ (Array.getElem?_eq_some_iff.1 h.q4).1).trans h.q4, (hb.block _ (Array.getElem?_eq_some_iff.1 h.q7).1).trans h.q7, (hb.block _ (Array.getElem?_eq_some_iff.1 h.q9).1).trans h.q9, h.bel.trans (hb.mono h.bel.size)⟩
set_option maxHeartbeats 8000000 in
set_option maxRecDepth 100000 in
theorem walk (v0 v1 v2 : Value) (w : World) (h0 : IsInt .i64 w v0) (h1 : IsRk w v1) (h2 : IsInt .i64 w v2) :
    Calls Try.prog 13 #[v0, v1, v2] w fun e w' => e = .returned (.bool true) ∧ Below w.heap.size w w' := by
  obtain ⟨k, rfl, -⟩ := h0
  obtain ⟨s, hv⟩ := h1
  obtain ⟨v, rfl, -⟩ := h2
  obtain ⟨ao, n, c, bo, L, d, rfl, hv⟩ := rk_shape hv
  obtain ⟨⟨sa, ea⟩, hEM⟩ : ∃ r, emptyG k = r := ⟨_, rfl⟩
  obtain ⟨⟨sb, eb⟩, hAD⟩ : ∃ r, addR s v = r := ⟨_, rfl⟩
  obtain ⟨bad, hBD⟩ : ∃ r, rankF s = r := ⟨_, rfl⟩
  have HV := Lib.hid hv
  have HEM := Lib.hid hEM
  have HAD := Lib.hid hAD
  have HBD := Lib.hid hBD
  clear hv hEM hAD hBD
  go_enter Try.func13, Try.ntmps13
  go_upto_region 1 with (fail)
  refine wp_abs (fun wA => wA.heap[w.heap.size]? = some (.cells #[.int .i64 s.k, .slice ao n c, .slice bo L d, .int .i64 s.n, .int .i64 s.sl] 141 (0, 0)) ∧ Below w.heap.size w wA) ⟨heap_alloc_new w _, (Below.refl _ _).alloc (Nat.le_refl _) _⟩ ?_
  rintro wA ⟨q0, hB0⟩
  have hlt0 : w.heap.size < wA.heap.size := (Array.getElem?_eq_some_iff.1 q0).1
  go_wp2_with fail
  refine (Empty_any k _).mono ?_
  rw [HEM.out]
  rintro e w1 ⟨va, rfl, hva, hb1⟩
  obtain ⟨aoa, na, ca, boa, La, da, rfl, hva⟩ := rk_shape hva
  have hB1 := hB0.trans (hb1.mono hB0.size)
  have q1 := (hb1.block _ hlt0).trans q0
  have hlt1 : w.heap.size < w1.heap.size := Nat.lt_of_lt_of_le hlt0 hb1.size
  clear q0 hb1 hB0 hlt0
  go_upto_region 2 with (fail)
  refine wp_abs (fun wx => wx.heap[w.heap.size]? = some (.cells #[.int .i64 s.k, .slice ao n c, .slice bo L d, .int .i64 s.n, .int .i64 s.sl] 141 (0, 0)) ∧ wx.heap[w1.heap.size]? = some (.cells #[.int .i64 sa.k, .slice aoa na ca, .slice boa La da, .int .i64 sa.n, .int .i64 sa.sl] 141 (0, 0)) ∧ Below w.heap.size w wx ∧ RkV wx (.agg #[.int .i64 sa.k, .slice aoa na ca, .slice boa La da, .int .i64 sa.n, .int .i64 sa.sl]) sa)
    ⟨(Below.heap_alloc _ _ _ hlt1).trans q1, heap_alloc_new w1 _, hB1.alloc hB1.size _, hva.below ((Below.refl _ w1).alloc (Nat.le_refl _) _)⟩ ?_
  obtain ⟨b7, hb7⟩ : ∃ b, w1.heap.size = b := ⟨_, rfl⟩
  rw [hb7] at hlt1 ⊢
  clear q1 hva hB1 hb7
  rintro w2 ⟨q4, q7, hB2, hva⟩
  have HVA2 := Lib.hid hva
  have HV2 := Lib.hid (HV.out.below hB2)
  clear hva
  have hl4 : w.heap.size < w2.heap.size := (Array.getElem?_eq_some_iff.1 q4).1
  have hl7 : b7 < w2.heap.size := (Array.getElem?_eq_some_iff.1 q7).1
  obtain ⟨⟨x0, x1, x2, x3, x4⟩, -⟩ := bx5 q4
  go_wp2_with fail
  refine (Add_any _ s v _ HV2.out).mono ?_
  rw [HAD.out]
  rintro e w3 ⟨vb, rfl, hvb, hb3⟩
  obtain ⟨aob, nb, cb, bob, Lb, db, rfl, hvb⟩ := rk_shape hvb
  have hB3 := hB2.trans (hb3.mono hB2.size)
  have r4 := (hb3.block _ hl4).trans q4
  have r7 := (hb3.block _ hl7).trans q7
  have HVA3 := Lib.hid (HVA2.out.below hb3)
  have hl4 : w.heap.size < w3.heap.size := (Array.getElem?_eq_some_iff.1 r4).1
  have hl7 : b7 < w3.heap.size := (Array.getElem?_eq_some_iff.1 r7).1
  clear q4 q7 hb3 hB2 x0 x1 x2 x3 x4 HVA2 HV2
  go_upto_region 3 with (fail)
  refine wp_abs (fun wx => St w b7 w3.heap.size (.cells #[.int .i64 s.k, .slice ao n c, .slice bo L d, .int .i64 s.n, .int .i64 s.sl] 141 (0, 0)) (.cells #[.int .i64 sa.k, .slice aoa na ca, .slice boa La da, .int .i64 sa.n, .int .i64 sa.sl] 141 (0, 0)) (.cells #[.int .i64 sb.k, .slice aob nb cb, .slice bob Lb db, .int .i64 sb.n, .int .i64 sb.sl] 141 (0, 0)) wx ∧ RkV wx (.agg #[.int .i64 sa.k, .slice aoa na ca, .slice boa La da, .int .i64 sa.n, .int .i64 sa.sl]) sa ∧ RkV wx (.agg #[.int .i64 sb.k, .slice aob nb cb, .slice bob Lb db, .int .i64 sb.n, .int .i64 sb.sl]) sb)
    ⟨⟨(Below.heap_alloc _ _ _ hl4).trans r4, (Below.heap_alloc _ _ _ hl7).trans r7, heap_alloc_new w3 _, hB3.alloc hB3.size _⟩, HVA3.out.below ((Below.refl _ w3).alloc (Nat.le_refl _) _), hvb.below ((Below.refl _ w3).alloc (Nat.le_refl _) _)⟩ ?_
  obtain ⟨b9, hb9⟩ : ∃ b, w3.heap.size = b := ⟨_, rfl⟩
  rw [hb9] at ⊢
  clear r4 r7 hvb hB3 hb9 HVA3 hl4 hl7
  rintro w5 ⟨hst, hva, hvb⟩
  have HVA5 := Lib.hid hva
  have HVB5 := Lib.hid hvb
  have HST5 := Lib.hid hst
  clear hva hvb hst
  obtain ⟨K, hK⟩ : ∃ K, decide (k < 2 ∨ 64 < k) = K := ⟨_, rfl⟩
  have HK := Lib.hid hK
  clear hK
  go_cut [30] (fun t wx => t = .bool K ∧ wx = w5)
  case first =>
    by_cases hk1 : k < 2
    · obtain rfl : K = true := by rw [← HK.out]; exact decide_eq_true (Or.inl hk1)
      go_wp2_with fail
      go_meet
      exact ⟨rfl, rfl⟩
    · by_cases hk2 : 64 < k
      · obtain rfl : K = true := by rw [← HK.out]; exact decide_eq_true (Or.inr hk2)
        go_wp2_with fail
        go_meet
        exact ⟨rfl, rfl⟩
      · obtain rfl : K = false := by rw [← HK.out]; exact decide_eq_false (by omega)
        go_wp2_with fail
        go_meet
        exact ⟨rfl, rfl⟩
  obtain ⟨rfl, rfl⟩ := hcut
  obtain ⟨w5, rfl⟩ : ∃ x, x = wc := ⟨_, rfl⟩
  go_upto_if 30 with (fail)
  go_cut [] (fun wx => Below w5.heap.size w5 wx)
  case first =>
    obtain ⟨⟨x0, x1, x2, x3, x4⟩, -⟩ := bx5 HST5.out.q7
    cases K with
    | true =>
      have he : emptyG k = (rk0, 1) := if_pos (of_decide_eq_true HK.out)
      rw [HEM.out] at he
      obtain ⟨rfl, rfl⟩ := Prod.mk.injEq .. ▸ he
      have HZ := Lib.hid (rkV_zero w5)
      clear he
      go_wp2_with fail
      refine (samerank_any _ _ rk0 _ HVA5.out HZ.out).mono ?_
      rintro e w6 ⟨rfl, hb6⟩
      go_wp2_with fail
      go_meet
      exact hb6
    | false =>
      have he : emptyG k = (⟨k, [], [], 0, 0⟩, 0) := if_neg (of_decide_eq_false HK.out)
      rw [HEM.out] at he
      obtain ⟨rfl, rfl⟩ := Prod.mk.injEq .. ▸ he
      have HZ := Lib.hid (rkV_k w5 k)
      clear he
      go_wp2_with fail
      refine (samerank_any _ _ ⟨k, [], [], 0, 0⟩ _ HVA5.out HZ.out).mono ?_
      rintro e w6 ⟨rfl, hb6⟩
      go_wp2_with fail
      go_meet
      exact hb6
  obtain ⟨w6, rfl⟩ : ∃ x, x = wc := ⟨_, rfl⟩
  have HST6 := Lib.hid (HST5.out.below hcut)
  have HVB6 := Lib.hid (HVB5.out.below hcut)
  clear hcut HST5 HVB5 HVA5 HEM
  obtain ⟨⟨x0, x1, x2, x3, x4⟩, -⟩ := bx5 HST6.out.q4
  go_wp2_with fail
  refine (rkfault_any _ s _ (HV.out.below HST6.out.bel)).mono ?_
  rw [HBD.out]
  rintro e w7 ⟨rfl, hb7⟩
  have HST7 := Lib.hid (HST6.out.below hb7)
  have HVB7 := Lib.hid (HVB6.out.below hb7)
  clear hb7 HST6 HVB6 x0 x1 x2 x3 x4
  obtain ⟨⟨x0, x1, x2, x3, x4⟩, -⟩ := bx5 HST7.out.q4
  have tb : (bad != bad) = false := by simp
  have tbb : (bad == bad) = true := by simp
  go_wp2_with fail
  refine (rkcheck_any _ s _ (HV.out.below HST7.out.bel)).mono ?_
  rw [HBD.out]
  rintro e w8 ⟨rfl, hb8⟩
  have HST8 := Lib.hid (HST7.out.below hb8)
  have HVB8 := Lib.hid (HVB7.out.below hb8)
  clear hb8 HST7 HVB7 x0 x1 x2 x3 x4
  obtain ⟨⟨x0, x1, x2, x3, x4⟩, -⟩ := bx5 HST8.out.q4
  obtain ⟨⟨y0, y1, y2, y3, y4⟩, -⟩ := bx5 HST8.out.q9
  have HZ := Lib.hid (rkV_zero w8)
  by_cases hz : bad = 0
  case neg =>
    have t1 : (bad == 0) = false := beq_eq_false_iff_ne.2 hz
    have t2 : (bad != 0) = true := by rw [bne_iff_ne]; exact hz
    have h1 : addR s v = (rk0, bad) := by unfold addR; rw [HBD.out, if_neg hz]
    rw [HAD.out] at h1
    obtain ⟨rfl, rfl⟩ := Prod.mk.injEq .. ▸ h1
    clear hz h1
    go_wp2_with fail
    refine (samerank_any _ _ rk0 _ HVB8.out HZ.out).mono ?_
    rintro e w9 ⟨rfl, hb9⟩
    go_wp2_with fail
    go_ret
    exact ⟨rfl, (HST8.out.below hb9).bel⟩
  subst hz
  have t1 : ((0 : Int) == 0) = true := rfl
  have t4 : ((0 : Int) != 0) = false := rfl
  have tee : (eb == eb) = true := by simp
  have h1 : boundG (addG s v) = (sb, eb) := by
    have h2 := HAD.out
    unfold addR at h2
    rwa [HBD.out, if_pos rfl] at h2
  have HBG := Lib.hid h1
  have hwl := rank_ok HBD.out
  have hwp := well_parts hwl
  have hhd := headR_ok.1 (okTo_head hwl.1)
  have hsum := sumTo_bd (s := s) (by omega) (by omega) (by omega) s.lv.length (by omega)
  rw [hwl.2] at hsum
  have HPRE : Hid (RPre w8.heap.size w8 (.agg #[.int .i64 s.k, .slice ao n c, .slice bo L d, .int .i64 s.n, .int .i64 s.sl]) s) := Lib.hid
    ⟨rkX_old (HV.out.below HST8.out.bel), Nat.le_refl _, by omega, fun a ha => ⟨by have := (hwp.2.2.2.2.2 a ha).1; omega, (hwp.2.2.2.2.2 a ha).2⟩, by omega, by omega, by omega⟩
  clear h1 hwl hwp hhd hsum HZ
  go_wp2_with fail
  refine (Ranked_any _ _ s v _ HPRE.out).mono ?_
  rintro e w9 ⟨v9, rfl, hv9, hb9⟩
  have HST9 := Lib.hid (HST8.out.below hb9)
  have HVB9 := Lib.hid (HVB8.out.below hb9)
  have HV9 := Lib.hid hv9.rk
  clear hb9 hv9 HST8 HVB8 x0 x1 x2 x3 x4 y0 y1 y2 y3 y4
  go_wp2_with fail
  refine (rankbounds_any _ (addG s v) _ HV9.out).mono ?_
  rw [HBG.out]
  rintro e w10 ⟨vc, rfl, hvc, hb10⟩
  obtain ⟨aoc, nc, cc, boc, Lc, dc, rfl, hvc⟩ := rk_shape hvc
  have HST10 := Lib.hid (HST9.out.below hb10)
  have HVB10 := Lib.hid (HVB9.out.below hb10)
  have HVC10 := Lib.hid hvc
  clear hvc hb10 HST9 HVB9 HV9
  go_upto_region 14 with (fail)
  refine wp_abs (fun wx => St w b7 b9 (.cells #[.int .i64 s.k, .slice ao n c, .slice bo L d, .int .i64 s.n, .int .i64 s.sl] 141 (0, 0)) (.cells #[.int .i64 sa.k, .slice aoa na ca, .slice boa La da, .int .i64 sa.n, .int .i64 sa.sl] 141 (0, 0)) (.cells #[.int .i64 sb.k, .slice aob nb cb, .slice bob Lb db, .int .i64 sb.n, .int .i64 sb.sl] 141 (0, 0)) wx ∧ wx.heap[w10.heap.size]? = some (.cells #[.int .i64 sb.k, .slice aoc nc cc, .slice boc Lc dc, .int .i64 sb.n, .int .i64 sb.sl] 141 (0, 0)) ∧ RkV wx (.agg #[.int .i64 sb.k, .slice aob nb cb, .slice bob Lb db, .int .i64 sb.n, .int .i64 sb.sl]) sb ∧ RkV wx (.agg #[.int .i64 sb.k, .slice aoc nc cc, .slice boc Lc dc, .int .i64 sb.n, .int .i64 sb.sl]) sb)
    ⟨HST10.out.below ((Below.refl _ w10).alloc (Nat.le_refl _) _), heap_alloc_new w10 _, HVB10.out.below ((Below.refl _ w10).alloc (Nat.le_refl _) _), HVC10.out.below ((Below.refl _ w10).alloc (Nat.le_refl _) _)⟩ ?_
  obtain ⟨b12, hb12⟩ : ∃ b, w10.heap.size = b := ⟨_, rfl⟩
  rw [hb12] at ⊢
  clear hb12 HST10 HVB10 HVC10
  rintro w11 ⟨hst, q12, hvb, hvc⟩
  have HST11 := Lib.hid hst
  have HVB11 := Lib.hid hvb
  have HVC11 := Lib.hid hvc
  obtain ⟨⟨y0, y1, y2, y3, y4⟩, -⟩ := bx5 hst.q9
  obtain ⟨⟨z0, z1, z2, z3, z4⟩, -⟩ := bx5 q12
  clear hst hvb hvc q12
  go_wp2_with fail
  refine (samerank_any _ _ sb _ HVB11.out HVC11.out).mono ?_
  rintro e w12 ⟨rfl, hb12⟩
  go_wp2_with fail
  go_ret
  exact ⟨rfl, (HST11.out.below hb12).bel⟩
end Go.Proofs.Ytcljeedmiobepaa.RankAdds
