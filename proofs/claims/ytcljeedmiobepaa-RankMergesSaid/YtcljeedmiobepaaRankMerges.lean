/-
  The walk of the law RankMerges.
-/
import Derived.Test.YtcljeedmiobepaaRk18
import Derived.Test.YtcljeedmiobepaaRk19
import Derived.Test.YtcljeedmiobepaaRk6
namespace Go.Proofs.Ytcljeedmiobepaa.RankMerges
open Go.RowKit Go.Gh Go.Proofs.Ytcljeedmiobepaa.Rk
set_option linter.unusedVariables false
/-- What stands in memory behind the call. -/
structure St (w : World) (b5 : Nat) (x2 x3 x5 : Obj) (wx : World) : Prop where
  q2 : wx.heap[w.heap.size]? = some x2
  q3 : wx.heap[w.heap.size + 1]? = some x3
  q5 : wx.heap[b5]? = some x5
  bel : Below w.heap.size w wx
theorem St.below {w : World} {b5 : Nat} {x2 x3 x5 : Obj} {wx wy : World} (h : St w b5 x2 x3 x5 wx) (hb : Below wx.heap.size wx wy) : St w b5 x2 x3 x5 wy :=
  ⟨(hb.block _ (Array.getElem?_eq_some_iff.1 h.q2).1).trans h.q2, (hb.block _ (Array.getElem?_eq_some_iff.1 h.q3).1).trans h.q3, (hb.block _ (Array.getElem?_eq_some_iff.1 h.q5).1).trans h.q5, h.bel.trans (hb.mono h.bel.size)⟩
set_option maxHeartbeats 8000000 in
set_option maxRecDepth 100000 in
theorem walk (v0 v1 : Value) (w : World) (h0 : IsRk w v0) (h1 : IsRk w v1) :
    Calls Try.prog 14 #[v0, v1] w fun e w' => e = .returned (.bool true) ∧ Below w.heap.size w w' := by
  obtain ⟨a, hva⟩ := h0
  obtain ⟨b, hvb⟩ := h1
  obtain ⟨ao, n, ca, po, p1, pa, rfl, hva⟩ := rk_shape hva
  obtain ⟨bo, m, cb, qo, q1, qb, rfl, hvb⟩ := rk_shape hvb
  obtain ⟨⟨s, es⟩, hMR⟩ : ∃ r, mergeR a b = r := ⟨_, rfl⟩
  obtain ⟨e1, he1⟩ : ∃ r, rankF a = r := ⟨_, rfl⟩
  obtain ⟨e2, he2⟩ : ∃ r, rankF b = r := ⟨_, rfl⟩
  have HVA := Lib.hid hva
  have HVB := Lib.hid hvb
  have HMR := Lib.hid hMR
  have HE1 := Lib.hid he1
  have HE2 := Lib.hid he2
  clear hva hvb hMR he1 he2
  go_enter Try.func14, Try.ntmps14
  go_upto_region 1 with (fail)
  refine wp_abs (fun wA => wA.heap[w.heap.size]? = some (.cells #[.int .i64 a.k, .slice ao n ca, .slice po p1 pa, .int .i64 a.n, .int .i64 a.sl] 141 (0, 0)) ∧ wA.heap[w.heap.size + 1]? = some (.cells #[.int .i64 b.k, .slice bo m cb, .slice qo q1 qb, .int .i64 b.n, .int .i64 b.sl] 141 (0, 0)) ∧ Below w.heap.size w wA) ⟨two_first w _ _, two_second w _ _, ((Below.refl _ _).alloc (Nat.le_refl _) _).alloc (by simp) _⟩ ?_
  rintro wA ⟨q2, q3, hB0⟩
  have hlt2 : w.heap.size < wA.heap.size := (Array.getElem?_eq_some_iff.1 q2).1
  have hlt3 : w.heap.size + 1 < wA.heap.size := (Array.getElem?_eq_some_iff.1 q3).1
  obtain ⟨⟨x0, x1, x2, x3, x4⟩, -⟩ := bx5 q2
  obtain ⟨⟨y0, y1, y2, y3, y4⟩, -⟩ := bx5 q3
  go_wp2_with fail
  refine (Merge_any _ _ a b _ (HVA.out.below hB0) (HVB.out.below hB0)).mono ?_
  rw [HMR.out]
  rintro e w1 ⟨vs, rfl, hvs, hb1⟩
  obtain ⟨so, p, cs, uo, u1, cu, rfl, hvs⟩ := rk_shape hvs
  have hB1 := hB0.trans (hb1.mono hB0.size)
  have r2 := (hb1.block _ hlt2).trans q2
  have r3 := (hb1.block _ hlt3).trans q3
  have hlt2 : w.heap.size < w1.heap.size := (Array.getElem?_eq_some_iff.1 r2).1
  have hlt3 : w.heap.size + 1 < w1.heap.size := (Array.getElem?_eq_some_iff.1 r3).1
  clear q2 q3 hb1 hB0 x0 x1 x2 x3 x4 y0 y1 y2 y3 y4
  go_upto_region 2 with (fail)
  refine wp_abs (fun wx => St w w1.heap.size (.cells #[.int .i64 a.k, .slice ao n ca, .slice po p1 pa, .int .i64 a.n, .int .i64 a.sl] 141 (0, 0)) (.cells #[.int .i64 b.k, .slice bo m cb, .slice qo q1 qb, .int .i64 b.n, .int .i64 b.sl] 141 (0, 0)) (.cells #[.int .i64 s.k, .slice so p cs, .slice uo u1 cu, .int .i64 s.n, .int .i64 s.sl] 141 (0, 0)) wx ∧ RkV wx (.agg #[.int .i64 s.k, .slice so p cs, .slice uo u1 cu, .int .i64 s.n, .int .i64 s.sl]) s)
    ⟨⟨(Below.heap_alloc _ _ _ hlt2).trans r2, (Below.heap_alloc _ _ _ hlt3).trans r3, heap_alloc_new w1 _, hB1.alloc hB1.size _⟩, hvs.below ((Below.refl _ w1).alloc (Nat.le_refl _) _)⟩ ?_
  obtain ⟨b5, hb5⟩ : ∃ b, w1.heap.size = b := ⟨_, rfl⟩
  rw [hb5] at ⊢
  clear r2 r3 hvs hB1 hb5 hlt2 hlt3
  rintro w2 ⟨hst, hvs⟩
  have HVS2 := Lib.hid hvs
  have HST2 := Lib.hid hst
  obtain ⟨⟨x0, x1, x2, x3, x4⟩, -⟩ := bx5 hst.q2
  clear hvs hst
  go_wp2_with fail
  refine (rkfault_any _ a _ (HVA.out.below HST2.out.bel)).mono ?_
  rw [HE1.out]
  rintro e w3 ⟨rfl, hb3⟩
  have HST3 := Lib.hid (HST2.out.below hb3)
  have HVS3 := Lib.hid (HVS2.out.below hb3)
  have HZ3 := Lib.hid (rkV_zero w3)
  clear hb3 HST2 HVS2 x0 x1 x2 x3 x4
  obtain ⟨⟨x0, x1, x2, x3, x4⟩, -⟩ := bx5 HST3.out.q2
  obtain ⟨⟨y0, y1, y2, y3, y4⟩, -⟩ := bx5 HST3.out.q3
  obtain ⟨⟨z0, z1, z2, z3, z4⟩, -⟩ := bx5 HST3.out.q5
  by_cases hz : e1 = 0
  case neg =>
    have t1 : (e1 == 0) = false := beq_eq_false_iff_ne.2 hz
    have t2 : (e1 != 0) = true := by rw [bne_iff_ne]; exact hz
    have t3 : (e1 == e1) = true := by simp
    have h1 := rr_bad1 (b := b) HE1.out hz
    rw [HMR.out] at h1
    obtain ⟨rfl, rfl⟩ := Prod.mk.injEq .. ▸ h1
    clear h1
    go_wp2_with fail
    refine (samerank_any _ _ rk0 _ HVS3.out HZ3.out).mono ?_
    rintro e w9 ⟨rfl, hb9⟩
    go_wp2_with fail
    go_ret
    exact ⟨rfl, (HST3.out.below hb9).bel⟩
  subst hz
  have t1 : ((0 : Int) == 0) = true := rfl
  have t0 : ((0 : Int) != 0) = false := rfl
  go_wp2_with fail
  refine (rkfault_any _ b _ (HVB.out.below HST3.out.bel)).mono ?_
  rw [HE2.out]
  rintro e w4 ⟨rfl, hb4⟩
  have HST4 := Lib.hid (HST3.out.below hb4)
  have HVS4 := Lib.hid (HVS3.out.below hb4)
  have HZ4 := Lib.hid (rkV_zero w4)
  clear hb4 HST3 HVS3 HZ3 x0 x1 x2 x3 x4 y0 y1 y2 y3 y4 z0 z1 z2 z3 z4
  obtain ⟨⟨x0, x1, x2, x3, x4⟩, -⟩ := bx5 HST4.out.q2
  obtain ⟨⟨y0, y1, y2, y3, y4⟩, -⟩ := bx5 HST4.out.q3
  obtain ⟨⟨z0, z1, z2, z3, z4⟩, -⟩ := bx5 HST4.out.q5
  by_cases hz2 : e2 = 0
  case neg =>
    have t4 : (e2 == 0) = false := beq_eq_false_iff_ne.2 hz2
    have t2 : (e2 != 0) = true := by rw [bne_iff_ne]; exact hz2
    have t3 : (e2 == e2) = true := by simp
    have h1 := rr_bad2 HE1.out HE2.out hz2
    rw [HMR.out] at h1
    obtain ⟨rfl, rfl⟩ := Prod.mk.injEq .. ▸ h1
    clear h1
    go_wp2_with fail
    refine (samerank_any _ _ rk0 _ HVS4.out HZ4.out).mono ?_
    rintro e w9 ⟨rfl, hb9⟩
    go_wp2_with fail
    go_ret
    exact ⟨rfl, (HST4.out.below hb9).bel⟩
  subst hz2
  by_cases hK : a.k = b.k
  case neg =>
    have t2 : (a.k != b.k) = true := by rw [bne_iff_ne]; exact hK
    have t3 : ((1 : Int) == 0) = false := rfl
    have t4 : ((1 : Int) != 0) = true := rfl
    have t5 : ((1 : Int) == 1) = true := rfl
    have h1 := rr_k HE1.out HE2.out hK
    rw [HMR.out] at h1
    obtain ⟨rfl, rfl⟩ := Prod.mk.injEq .. ▸ h1
    clear h1
    go_wp2_with fail
    refine (samerank_any _ _ rk0 _ HVS4.out HZ4.out).mono ?_
    rintro e w9 ⟨rfl, hb9⟩
    go_wp2_with fail
    go_ret
    exact ⟨rfl, (HST4.out.below hb9).bel⟩
  have t2 : (a.k != b.k) = false := by rw [← hK]; simp
  have t6 : (es == es) = true := by simp
  have h1 := rr_ok HE1.out HE2.out hK
  rw [HMR.out] at h1
  have HBG := Lib.hid h1.symm
  have HOK1 := Lib.hid (rank_ok HE1.out)
  have HOK2 := Lib.hid (rank_ok HE2.out)
  have HK := Lib.hid hK
  clear hK h1
  go_upto_region 9 with (fail)
  go_wp2_with fail
  refine (RanksMerged_any _ _ a b _ (HVA.out.below HST4.out.bel) (HVB.out.below HST4.out.bel) HOK1.out HOK2.out HK.out).mono ?_
  rintro e w5 ⟨v5, rfl, hv5, hb5⟩
  have HST5 := Lib.hid (HST4.out.below hb5)
  have HVS5 := Lib.hid (HVS4.out.below hb5)
  have HV5 := Lib.hid hv5
  clear hb5 hv5 HST4 HVS4 HZ4 x0 x1 x2 x3 x4 y0 y1 y2 y3 y4 z0 z1 z2 z3 z4
  go_wp2_with fail
  refine (rankbounds_any _ (joinG a b) _ HV5.out).mono ?_
  rw [HBG.out]
  rintro e w6 ⟨vc, rfl, hvc, hb6⟩
  obtain ⟨co, c1, cc, eo, e1, ce, rfl, hvc⟩ := rk_shape hvc
  have HST6 := Lib.hid (HST5.out.below hb6)
  have HVS6 := Lib.hid (HVS5.out.below hb6)
  have HVC6 := Lib.hid hvc
  clear hvc hb6 HST5 HVS5 HV5
  go_upto_region 10 with (fail)
  refine wp_abs (fun wx => St w b5 (.cells #[.int .i64 a.k, .slice ao n ca, .slice po p1 pa, .int .i64 a.n, .int .i64 a.sl] 141 (0, 0)) (.cells #[.int .i64 b.k, .slice bo m cb, .slice qo q1 qb, .int .i64 b.n, .int .i64 b.sl] 141 (0, 0)) (.cells #[.int .i64 s.k, .slice so p cs, .slice uo u1 cu, .int .i64 s.n, .int .i64 s.sl] 141 (0, 0)) wx ∧ wx.heap[w6.heap.size]? = some (.cells #[.int .i64 s.k, .slice co c1 cc, .slice eo e1 ce, .int .i64 s.n, .int .i64 s.sl] 141 (0, 0)) ∧ RkV wx (.agg #[.int .i64 s.k, .slice so p cs, .slice uo u1 cu, .int .i64 s.n, .int .i64 s.sl]) s ∧ RkV wx (.agg #[.int .i64 s.k, .slice co c1 cc, .slice eo e1 ce, .int .i64 s.n, .int .i64 s.sl]) s)
    ⟨HST6.out.below ((Below.refl _ w6).alloc (Nat.le_refl _) _), heap_alloc_new w6 _, HVS6.out.below ((Below.refl _ w6).alloc (Nat.le_refl _) _), HVC6.out.below ((Below.refl _ w6).alloc (Nat.le_refl _) _)⟩ ?_
  obtain ⟨b8, hb8⟩ : ∃ b, w6.heap.size = b := ⟨_, rfl⟩
  rw [hb8] at ⊢
  clear hb8 HST6 HVS6 HVC6
  rintro w7 ⟨hst, q8, hvs, hvc⟩
  have HST7 := Lib.hid hst
  have HVS7 := Lib.hid hvs
  have HVC7 := Lib.hid hvc
  obtain ⟨⟨y0, y1, y2, y3, y4⟩, -⟩ := bx5 hst.q5
  obtain ⟨⟨z0, z1, z2, z3, z4⟩, -⟩ := bx5 q8
  clear hst hvs hvc q8
  go_wp2_with fail
  refine (samerank_any _ _ s _ HVS7.out HVC7.out).mono ?_
  rintro e w8 ⟨rfl, hb8⟩
  go_wp2_with fail
  go_ret
  exact ⟨rfl, (HST7.out.below hb8).bel⟩
end Go.Proofs.Ytcljeedmiobepaa.RankMerges
