/-
  The walk of the law HeavyMerges.
-/
import Derived.Test.YtcljeedmiobepaaHv8
import Derived.Test.YtcljeedmiobepaaHm1
import Derived.Test.YtcljeedmiobepaaHm2
import Derived.Deep.RegionHeld3
namespace Go.Proofs.Ytcljeedmiobepaa.HeavyMerges
open Go.RowKit Go.Gh Go.Proofs.Ytcljeedmiobepaa.Hv
set_option linter.unusedVariables false
theorem hv_shape {w : World} {v : Value} {s : Hv} (h : HvV w v s) : ∃ ao n c, v = .agg #[.int .i64 s.k, .slice ao n c, .int .i64 s.n, .int .i64 s.off] ∧ HvV w (.agg #[.int .i64 s.k, .slice ao n c, .int .i64 s.n, .int .i64 s.off]) s := by
  obtain ⟨t, rfl, hs⟩ := h
  obtain ⟨ao, c, rfl, _, _⟩ := hs.shape
  exact ⟨_, _, _, rfl, _, rfl, hs⟩
/-- What stands in memory behind the call. -/
structure St (w : World) (b5 : Nat) (x2 x3 x5 : Obj) (wx : World) : Prop where
  q2 : wx.heap[w.heap.size]? = some x2
  q3 : wx.heap[w.heap.size + 1]? = some x3
  q5 : wx.heap[b5]? = some x5
  bel : Below w.heap.size w wx
theorem St.below {w : World} {b5 : Nat} {x2 x3 x5 : Obj} {wx wy : World} (h : St w b5 x2 x3 x5 wx) (hb : Below wx.heap.size wx wy) : St w b5 x2 x3 x5 wy :=
  ⟨(hb.block _ (Array.getElem?_eq_some_iff.1 h.q2).1).trans h.q2, (hb.block _ (Array.getElem?_eq_some_iff.1 h.q3).1).trans h.q3, (hb.block _ (Array.getElem?_eq_some_iff.1 h.q5).1).trans h.q5, h.bel.trans (hb.mono h.bel.size)⟩
set_option maxHeartbeats 8000000 in
set_option maxRecDepth 100000 in
theorem walk (v0 v1 : Value) (w : World) (h0 : IsHv w v0) (h1 : IsHv w v1) :
    Calls Try.prog 8 #[v0, v1] w fun e w' => e = .returned (.bool true) ∧ Below w.heap.size w w' := by
  obtain ⟨a, hva⟩ := h0
  obtain ⟨b, hvb⟩ := h1
  obtain ⟨ao, n, ca, rfl, hva⟩ := hv_shape hva
  obtain ⟨bo, m, cb, rfl, hvb⟩ := hv_shape hvb
  obtain ⟨⟨s, es⟩, hMR⟩ : ∃ r, mergeR a b = r := ⟨_, rfl⟩
  obtain ⟨e1, he1⟩ : ∃ r, heavyF a = r := ⟨_, rfl⟩
  obtain ⟨e2, he2⟩ : ∃ r, heavyF b = r := ⟨_, rfl⟩
  have HVA := Lib.hid hva
  have HVB := Lib.hid hvb
  have HMR := Lib.hid hMR
  have HE1 := Lib.hid he1
  have HE2 := Lib.hid he2
  clear hva hvb hMR he1 he2
  go_enter Try.func8, Try.ntmps8
  go_upto_region 1 with (fail)
  refine wp_abs (fun wA => wA.heap[w.heap.size]? = some (.cells #[.int .i64 a.k, .slice ao n ca, .int .i64 a.n, .int .i64 a.off] 86 (0, 0)) ∧ wA.heap[w.heap.size + 1]? = some (.cells #[.int .i64 b.k, .slice bo m cb, .int .i64 b.n, .int .i64 b.off] 86 (0, 0)) ∧ Below w.heap.size w wA) ⟨two_first w _ _, two_second w _ _, ((Below.refl _ _).alloc (Nat.le_refl _) _).alloc (by simp) _⟩ ?_
  rintro wA ⟨q2, q3, hB0⟩
  have hlt2 : w.heap.size < wA.heap.size := (Array.getElem?_eq_some_iff.1 q2).1
  have hlt3 : w.heap.size + 1 < wA.heap.size := (Array.getElem?_eq_some_iff.1 q3).1
  obtain ⟨⟨x0, x1, x2, x3⟩, -⟩ := bx4 q2
  obtain ⟨⟨y0, y1, y2, y3⟩, -⟩ := bx4 q3
  go_wp2_with fail
  refine (merge_any _ _ a b _ (HVA.out.below hB0) (HVB.out.below hB0)).mono ?_
  rw [HMR.out]
  rintro e w1 ⟨vs, rfl, hvs, hb1⟩
  obtain ⟨so, p, cs, rfl, hvs⟩ := hv_shape hvs
  have hB1 := hB0.trans (hb1.mono hB0.size)
  have r2 := (hb1.block _ hlt2).trans q2
  have r3 := (hb1.block _ hlt3).trans q3
  have hlt2 : w.heap.size < w1.heap.size := (Array.getElem?_eq_some_iff.1 r2).1
  have hlt3 : w.heap.size + 1 < w1.heap.size := (Array.getElem?_eq_some_iff.1 r3).1
  clear q2 q3 hb1 hB0 x0 x1 x2 x3 y0 y1 y2 y3
  go_upto_region 2 with (fail)
  refine wp_abs (fun wx => St w w1.heap.size (.cells #[.int .i64 a.k, .slice ao n ca, .int .i64 a.n, .int .i64 a.off] 86 (0, 0)) (.cells #[.int .i64 b.k, .slice bo m cb, .int .i64 b.n, .int .i64 b.off] 86 (0, 0)) (.cells #[.int .i64 s.k, .slice so p cs, .int .i64 s.n, .int .i64 s.off] 86 (0, 0)) wx ∧ HvV wx (.agg #[.int .i64 s.k, .slice so p cs, .int .i64 s.n, .int .i64 s.off]) s)
    ⟨⟨(Below.heap_alloc _ _ _ hlt2).trans r2, (Below.heap_alloc _ _ _ hlt3).trans r3, heap_alloc_new w1 _, hB1.alloc hB1.size _⟩, hvs.below ((Below.refl _ w1).alloc (Nat.le_refl _) _)⟩ ?_
  obtain ⟨b5, hb5⟩ : ∃ b, w1.heap.size = b := ⟨_, rfl⟩
  rw [hb5] at ⊢
  clear r2 r3 hvs hB1 hb5 hlt2 hlt3
  rintro w2 ⟨hst, hvs⟩
  have HVS2 := Lib.hid hvs
  have HST2 := Lib.hid hst
  obtain ⟨⟨x0, x1, x2, x3⟩, -⟩ := bx4 hst.q2
  clear hvs hst
  go_wp2_with fail
  refine (hvfault_any _ a _ (HVA.out.below HST2.out.bel)).mono ?_
  rw [HE1.out]
  rintro e w3 ⟨rfl, hb3⟩
  have HST3 := Lib.hid (HST2.out.below hb3)
  have HVS3 := Lib.hid (HVS2.out.below hb3)
  have HZ3 := Lib.hid (hvV_zero w3)
  clear hb3 HST2 HVS2 x0 x1 x2 x3
  obtain ⟨⟨x0, x1, x2, x3⟩, -⟩ := bx4 HST3.out.q2
  obtain ⟨⟨y0, y1, y2, y3⟩, -⟩ := bx4 HST3.out.q3
  obtain ⟨⟨z0, z1, z2, z3⟩, -⟩ := bx4 HST3.out.q5
  by_cases hz : e1 = 0
  case neg =>
    have t1 : (e1 == 0) = false := beq_eq_false_iff_ne.2 hz
    have t2 : (e1 != 0) = true := by rw [bne_iff_ne]; exact hz
    have t3 : (e1 == e1) = true := by simp
    have h1 := mr_bad1 (b := b) HE1.out hz
    rw [HMR.out] at h1
    obtain ⟨rfl, rfl⟩ := Prod.mk.injEq .. ▸ h1
    clear h1
    go_wp2_with fail
    refine (sameheavy_any _ _ hv0 _ HVS3.out HZ3.out).mono ?_
    rintro e w9 ⟨rfl, hb9⟩
    go_wp2_with fail
    go_ret
    exact ⟨rfl, (HST3.out.below hb9).bel⟩
  subst hz
  have t1 : ((0 : Int) == 0) = true := rfl
  have t0 : ((0 : Int) != 0) = false := rfl
  go_wp2_with fail
  refine (hvfault_any _ b _ (HVB.out.below HST3.out.bel)).mono ?_
  rw [HE2.out]
  rintro e w4 ⟨rfl, hb4⟩
  have HST4 := Lib.hid (HST3.out.below hb4)
  have HVS4 := Lib.hid (HVS3.out.below hb4)
  have HZ4 := Lib.hid (hvV_zero w4)
  clear hb4 HST3 HVS3 HZ3 x0 x1 x2 x3 y0 y1 y2 y3 z0 z1 z2 z3
  obtain ⟨⟨x0, x1, x2, x3⟩, -⟩ := bx4 HST4.out.q2
  obtain ⟨⟨y0, y1, y2, y3⟩, -⟩ := bx4 HST4.out.q3
  obtain ⟨⟨z0, z1, z2, z3⟩, -⟩ := bx4 HST4.out.q5
  by_cases hz2 : e2 = 0
  case neg =>
    have t4 : (e2 == 0) = false := beq_eq_false_iff_ne.2 hz2
    have t2 : (e2 != 0) = true := by rw [bne_iff_ne]; exact hz2
    have t3 : (e2 == e2) = true := by simp
    have h1 := mr_bad2 HE1.out HE2.out hz2
    rw [HMR.out] at h1
    obtain ⟨rfl, rfl⟩ := Prod.mk.injEq .. ▸ h1
    clear h1
    go_wp2_with fail
    refine (sameheavy_any _ _ hv0 _ HVS4.out HZ4.out).mono ?_
    rintro e w9 ⟨rfl, hb9⟩
    go_wp2_with fail
    go_ret
    exact ⟨rfl, (HST4.out.below hb9).bel⟩
  subst hz2
  have HOK1 := Lib.hid (heavy_ok HE1.out)
  have HOK2 := Lib.hid (heavy_ok HE2.out)
  have hh1 := headH_ok.1 HOK1.out.1
  have hh2 := headH_ok.1 HOK2.out.1
  have j1 : IntKind.i64.wrap (a.n + b.n) = a.n + b.n := IntWalk.i64_in _ (by omega)
  by_cases hK : a.k = b.k
  case neg =>
    have t2 : (a.k != b.k) = true := by rw [bne_iff_ne]; exact hK
    have t3 : ((1 : Int) == 0) = false := rfl
    have t4 : ((1 : Int) != 0) = true := rfl
    have t5 : ((1 : Int) == 1) = true := rfl
    have h1 := mr_k HE1.out HE2.out hK
    rw [HMR.out] at h1
    obtain ⟨rfl, rfl⟩ := Prod.mk.injEq .. ▸ h1
    clear h1
    go_wp2_with fail
    refine (sameheavy_any _ _ hv0 _ HVS4.out HZ4.out).mono ?_
    rintro e w9 ⟨rfl, hb9⟩
    go_wp2_with fail
    go_ret
    exact ⟨rfl, (HST4.out.below hb9).bel⟩
  have t2 : (a.k != b.k) = false := by rw [← hK]; simp
  have HK := Lib.hid hK
  clear hK
  by_cases hL : 1000000000 < a.n + b.n
  · have t3 : ((2 : Int) == 0) = false := rfl
    have t4 : ((2 : Int) != 0) = true := rfl
    have t5 : ((2 : Int) == 2) = true := rfl
    have h1 := mr_large HE1.out HE2.out HK.out hL
    rw [HMR.out] at h1
    obtain ⟨rfl, rfl⟩ := Prod.mk.injEq .. ▸ h1
    clear h1
    go_wp2_with fail
    refine (sameheavy_any _ _ hv0 _ HVS4.out HZ4.out).mono ?_
    rintro e w9 ⟨rfl, hb9⟩
    go_wp2_with fail
    go_ret
    exact ⟨rfl, (HST4.out.below hb9).bel⟩
  have h1 := mr_ok HE1.out HE2.out HK.out hL
  rw [HMR.out] at h1
  obtain ⟨rfl, rfl⟩ := Prod.mk.injEq .. ▸ h1
  have HA : Hid (∀ W, Below w4.heap.size w4 W → HvV W (.agg #[.int .i64 a.k, .slice ao n ca, .int .i64 a.n, .int .i64 a.off]) a) := Lib.hid (fun W h => HVA.out.below (HST4.out.below h).bel)
  have HB : Hid (∀ W, Below w4.heap.size w4 W → HvV W (.agg #[.int .i64 b.k, .slice bo m cb, .int .i64 b.n, .int .i64 b.off]) b) := Lib.hid (fun W h => HVB.out.below (HST4.out.below h).bel)
  have HS : Hid (∀ W, Below w4.heap.size w4 W → HvV W (.agg #[.int .i64 (mergedF a b).k, .slice so p cs, .int .i64 (mergedF a b).n, .int .i64 (mergedF a b).off]) (mergedF a b)) := Lib.hid (fun W h => HVS4.out.below h)
  have HBX : Hid (∀ W, Below w4.heap.size w4 W → (W.cell? ⟨w.heap.size, 0, none⟩ = some (.int .i64 a.k) ∧ W.cell? ⟨w.heap.size, 1, none⟩ = some (.slice ao n ca) ∧ W.cell? ⟨w.heap.size, 2, none⟩ = some (.int .i64 a.n) ∧ W.cell? ⟨w.heap.size, 3, none⟩ = some (.int .i64 a.off) ∧ W.cell? ⟨w.heap.size + 1, 0, none⟩ = some (.int .i64 b.k) ∧ W.cell? ⟨w.heap.size + 1, 1, none⟩ = some (.slice bo m cb) ∧ W.cell? ⟨w.heap.size + 1, 2, none⟩ = some (.int .i64 b.n) ∧ W.cell? ⟨w.heap.size + 1, 3, none⟩ = some (.int .i64 b.off) ∧ W.cell? ⟨b5, 0, none⟩ = some (.int .i64 (mergedF a b).k) ∧ W.cell? ⟨b5, 1, none⟩ = some (.slice so p cs) ∧ W.cell? ⟨b5, 2, none⟩ = some (.int .i64 (mergedF a b).n) ∧ W.cell? ⟨b5, 3, none⟩ = some (.int .i64 (mergedF a b).off))) := Lib.hid (fun W h => by
    have h' := HST4.out.below h
    obtain ⟨⟨a0, a1, a2, a3⟩, -⟩ := bx4 h'.q2
    obtain ⟨⟨b0, b1, b2, b3⟩, -⟩ := bx4 h'.q3
    obtain ⟨⟨c0, c1, c2, c3⟩, -⟩ := bx4 h'.q5
    exact ⟨a0, a1, a2, a3, b0, b1, b2, b3, c0, c1, c2, c3⟩)
  have HD : Hid (Below w4.heap.size w4 w4.drew) := Lib.hid (Below.refl _ _).drew
  clear h1 HVS4 hh1 hh2
  go_upto_region 11 with (fail)
  clear x0 x1 x2 x3 y0 y1 y2 y3 z0 z1 z2 z3
  have z0 := HBX.out _ HD.out
  go_region_held3 (fun w' => w'.cell? ⟨w.heap.size, 0, none⟩ = some (.int .i64 a.k) ∧ w'.cell? ⟨w.heap.size, 1, none⟩ = some (.slice ao n ca) ∧ w'.cell? ⟨w.heap.size, 2, none⟩ = some (.int .i64 a.n) ∧ w'.cell? ⟨w.heap.size, 3, none⟩ = some (.int .i64 a.off) ∧ w'.cell? ⟨w.heap.size + 1, 0, none⟩ = some (.int .i64 b.k) ∧ w'.cell? ⟨w.heap.size + 1, 1, none⟩ = some (.slice bo m cb) ∧ w'.cell? ⟨w.heap.size + 1, 2, none⟩ = some (.int .i64 b.n) ∧ w'.cell? ⟨w.heap.size + 1, 3, none⟩ = some (.int .i64 b.off) ∧ w'.cell? ⟨b5, 0, none⟩ = some (.int .i64 (mergedF a b).k) ∧ w'.cell? ⟨b5, 1, none⟩ = some (.slice so p cs) ∧ w'.cell? ⟨b5, 2, none⟩ = some (.int .i64 (mergedF a b).n) ∧ w'.cell? ⟨b5, 3, none⟩ = some (.int .i64 (mergedF a b).off)) (first | (with_reducible exact z2) | (with_reducible exact z1) | (with_reducible exact z0) | go_keep) (first
    | (go_at_call 58; refine (talliesmerged_any _ _ a b _ (HA.out _ HD.out) (HB.out _ HD.out) HOK1.out HOK2.out).mono ?_; rintro e w10 ⟨vt, rfl, hvt, hb10⟩; have HVT := Lib.hid hvt; have HD1 : Hid (Below w4.heap.size w4 w10) := Lib.hid (HD.out.trans (hb10.mono HD.out.size)); have z1 := HBX.out _ HD1.out; clear hb10 hvt)
    | (go_at_call 52; refine (sameheavy_any _ _ (mergedF a b) _ (HS.out _ HD1.out) HVT.out).mono ?_; rintro e w11 ⟨rfl, hb11⟩; have HD2 : Hid (Below w4.heap.size w4 w11) := Lib.hid (HD1.out.trans (hb11.mono HD1.out.size)); have z2 := HBX.out _ HD2.out; clear hb11))
  all_goals
    go_wp2_with fail
    go_ret
    exact ⟨rfl, (HST4.out.below HD2.out).bel⟩
end Go.Proofs.Ytcljeedmiobepaa.HeavyMerges
