/-
  Ranks: the walk of the reference's RanksMerged.
-/
import Derived.Test.YtcljeedmiobepaaRk16
import Derived.Test.YtcljeedmiobepaaRkLaw3
namespace Go.Proofs.Ytcljeedmiobepaa.Rk
open Go.RowKit Go.Gh
set_option linter.unusedVariables false
theorem RkX.level {B L i : Nat} {w : World} {k t n sl : Value} {qo : Option Addr} {qc : Nat} {s : Rk} {a : List Int} (h : RkX B w (.agg #[k, t, .slice qo L qc, n, sl]) s) (ha : s.lv[i]? = some a) :
    s.lv.length = L ∧ ∃ g off ta, qo = some ⟨g, off, none⟩ ∧ w.cell? ⟨g, off + i, none⟩ = some ta ∧ NsX B w ta a := by
  obtain ⟨t1, u1, P, e, h2, h3, h4, h5, h6⟩ := h
  simp only [Value.agg.injEq, Array.mk.injEq, List.cons.injEq, and_true] at e
  obtain ⟨-, -, rfl, -, -⟩ := e
  obtain ⟨ao, cap, e1, i2, i3, i4, i5, i6⟩ := h6.out
  simp only [Value.slice.injEq] at e1
  obtain ⟨rfl, rfl, rfl⟩ := e1
  have hi : i < s.lv.length := (List.getElem?_eq_some_iff.1 ha).1
  obtain ⟨g, off, e2, hc⟩ := i6 (by omega)
  obtain ⟨cs, hp⟩ := pair_at h3 ha
  obtain ⟨ta, e3, e4⟩ := h5 _ (List.mem_of_getElem? hp)
  dsimp only at e3
  have hg := pc_get (j := 0) h4 hp (by decide)
  rw [Nat.mul_one, Nat.add_zero] at hg
  refine ⟨rfl, g, off, ta, e2, hc i ta (by rw [hg]; dsimp only; rw [e3]; rfl), e4⟩
theorem RkX.lvlen {B L : Nat} {w : World} {k t n sl : Value} {qo : Option Addr} {qc : Nat} {s : Rk} (h : RkX B w (.agg #[k, t, .slice qo L qc, n, sl]) s) : s.lv.length = L := by
  obtain ⟨t1, u1, P, e, h2, h3, h4, h5, h6⟩ := h
  simp only [Value.agg.injEq, Array.mk.injEq, List.cons.injEq, and_true] at e
  obtain ⟨-, -, rfl, -, -⟩ := e
  obtain ⟨ao, cap, e1, -⟩ := h6.out
  simp only [Value.slice.injEq] at e1
  exact e1.2.1.symm
/-- On the way: the box of the one, the other's, the result's. -/
structure MAt (w : World) (B : Nat) (x3 : Obj) (s : Rk) (t u : Value) (wx : World) : Prop where
  box : wx.heap[B]? = some (.cells #[.int .i64 s.k, t, u, .int .i64 s.n, .int .i64 s.sl] 141 (0, 0))
  b3 : wx.heap[B + 1]? = some x3
  b4 : wx.heap[B + 1 + 1]? = some (.cells #[.int .i64 0, .slice none 0 0, .slice none 0 0, .int .i64 0, .int .i64 0] 141 (0, 0))
  rk : RkX B wx (.agg #[.int .i64 s.k, t, u, .int .i64 s.n, .int .i64 s.sl]) s
  bel : Below B w wx
section
variable {w : World} {B : Nat} {x3 : Obj} {s : Rk} {t u : Value} {wx wy : World}
theorem MAt.lt (h : MAt w B x3 s t u wx) : B + 1 + 1 < wx.heap.size := (Array.getElem?_eq_some_iff.1 h.b4).1
theorem MAt.below (h : MAt w B x3 s t u wx) (hb : Below wx.heap.size wx wy) : MAt w B x3 s t u wy :=
  ⟨(hb.block _ (by have := h.lt; omega)).trans h.box, (hb.block _ (by have := h.lt; omega)).trans h.b3, (hb.block _ h.lt).trans h.b4, h.rk.below hb, h.bel.trans (hb.mono (by have := h.lt; omega))⟩
/-- Another rank is put into the box. -/
theorem MAt.put {s' : Rk} {t' u' : Value} (h : MAt w B x3 s t u wx) (hr : RkX B wx (.agg #[.int .i64 s'.k, t', u', .int .i64 s'.n, .int .i64 s'.sl]) s') :
    MAt w B x3 s' t' u' (((((wx.setCell ⟨B, 0, none⟩ (.int .i64 s'.k)).setCell ⟨B, 1, none⟩ t').setCell ⟨B, 2, none⟩ u').setCell ⟨B, 3, none⟩ (.int .i64 s'.n)).setCell ⟨B, 4, none⟩ (.int .i64 s'.sl)) :=
  ⟨bx5_store _ _ _ _ _ h.box, block_stores_other (b := B) (b' := B + 1) (by omega) [.int .i64 s'.k, t', u', .int .i64 s'.n, .int .i64 s'.sl] wx 0 h.b3, block_stores_other (b := B) (b' := B + 1 + 1) (by omega) [.int .i64 s'.k, t', u', .int .i64 s'.n, .int .i64 s'.sl] wx 0 h.b4,
    hr.go (Ag.stores5 (Nat.le_refl _) h.box KL_rk), bx5_below _ _ _ _ _ (Nat.le_refl _) h.bel⟩
theorem MAt.num (h : MAt w B x3 s t u wx) (z : Int) : MAt w B x3 ⟨s.k, s.tl, s.lv, z, s.sl⟩ t u (wx.setCell ⟨B, 3, none⟩ (.int .i64 z)) :=
  ⟨by simpa using row_setCell 3 (.int .i64 z) h.box, row_setCell_other (i := 3) (b' := B) _ h.b3 (by omega), row_setCell_other (i := 3) (b' := B) _ h.b4 (by omega), (h.rk.slack (k := s.k) (n := z) (sl := s.sl)).go (Ag.set (Nat.le_refl _) h.box KL_rk), h.bel.setCell (p := ⟨B, 3, none⟩) (Nat.le_refl _) _⟩
theorem MAt.slk (h : MAt w B x3 s t u wx) (z : Int) : MAt w B x3 ⟨s.k, s.tl, s.lv, s.n, z⟩ t u (wx.setCell ⟨B, 4, none⟩ (.int .i64 z)) :=
  ⟨by simpa using row_setCell 4 (.int .i64 z) h.box, row_setCell_other (i := 4) (b' := B) _ h.b3 (by omega), row_setCell_other (i := 4) (b' := B) _ h.b4 (by omega), (h.rk.slack (k := s.k) (n := s.n) (sl := z)).go (Ag.set (Nat.le_refl _) h.box KL_rk), h.bel.setCell (p := ⟨B, 4, none⟩) (Nat.le_refl _) _⟩
end
theorem rkX_shape' {B : Nat} {w : World} {v : Value} {s : Rk} (h : RkX B w v s) : ∃ ao n c bo L d, v = .agg #[.int .i64 s.k, .slice ao n c, .slice bo L d, .int .i64 s.n, .int .i64 s.sl] ∧ RkX B w (.agg #[.int .i64 s.k, .slice ao n c, .slice bo L d, .int .i64 s.n, .int .i64 s.sl]) s := rkX_shape h
set_option maxHeartbeats 8000000 in
set_option maxRecDepth 100000 in
theorem RanksMerged_any (v v' : Value) (a b : Rk) (w : World) (hva : RkV w v a) (hvb : RkV w v' b) (hwa : wellR a) (hwb : wellR b) (hkk : a.k = b.k) :
    Calls Try.prog 101 #[v, v'] w fun e w' => ∃ u, e = .returned u ∧ RkV w' u (joinG a b) ∧ Below w.heap.size w w' := by
  obtain ⟨ao, n, ca, po, p1, pa, rfl, hxa⟩ := rkX_shape (rkX_old hva)
  obtain ⟨bo, m, cb, qo, q1, qb, rfl, hxb⟩ := rkX_shape (rkX_old hvb)
  have hq1 := hxb.lvlen
  have hma := mi_start hwa hwb
  obtain ⟨hlb, hb20, hb63⟩ := lst_all hwb
  rw [hq1] at hb20
  have hms := mi_steps hma hlb (by rw [hq1]; exact hb20)
  rw [hq1] at hms
  have hbm : b.tl.length = m := by
    have := hxb.nsx.out
    obtain ⟨ao', cap, e1, -⟩ := this
    simp only [Value.slice.injEq] at e1
    exact e1.2.1.symm
  rw [hbm] at hb63
  obtain ⟨S0, hS0⟩ : ∃ S0 : Rk, (⟨a.k, a.tl, a.lv, a.n, a.sl + b.sl⟩ : Rk) = S0 := ⟨_, rfl⟩
  rw [hS0] at hma hms
  have hJ : joinG a b = addTo (stepTo S0 b.lv q1) b.tl m := by unfold joinG; rw [hS0, hq1, hbm]
  have hadd := fun j => mi_adds (hms q1 (Nat.le_refl _)) hb20 (tl := b.tl) (by rw [hbm]; omega) j
  rw [hbm] at hadd
  obtain ⟨B, hB⟩ : ∃ B, w.heap.size = B := ⟨_, rfl⟩
  rw [hB] at hxa hxb
  obtain ⟨wA, hwA⟩ : ∃ wA, wA = ((w.alloc (Obj.cells #[.int .i64 a.k, .slice ao n ca, .slice po p1 pa, .int .i64 a.n, .int .i64 a.sl] 141)).alloc (Obj.cells #[.int .i64 b.k, .slice bo m cb, .slice qo q1 qb, .int .i64 b.n, .int .i64 b.sl] 141)).alloc (Obj.cells #[.int .i64 0, .slice none 0 0, .slice none 0 0, .int .i64 0, .int .i64 0] 141) := ⟨_, rfl⟩
  have hM0 : MAt w B (.cells #[.int .i64 b.k, .slice bo m cb, .slice qo q1 qb, .int .i64 b.n, .int .i64 b.sl] 141 (0, 0)) a (.slice ao n ca) (.slice po p1 pa) wA := by
    have hbA : Below w.heap.size w wA := by rw [hwA]; exact (((Below.refl _ w).alloc (Nat.le_refl _) _).alloc (by simp) _).alloc (by simp; omega) _
    refine ⟨?_, ?_, ?_, hxa.below hbA, by rw [← hB]; exact hbA⟩
    · rw [hwA, ← hB, Below.heap_alloc _ _ _ (by simp; omega)]
      exact two_first w _ _
    · rw [hwA, ← hB, Below.heap_alloc _ _ _ (by simp)]
      exact two_second w _ _
    · rw [hwA, ← hB]
      have := heap_alloc_new ((w.alloc (Obj.cells #[.int .i64 a.k, .slice ao n ca, .slice po p1 pa, .int .i64 a.n, .int .i64 a.sl] 141)).alloc (Obj.cells #[.int .i64 b.k, .slice bo m cb, .slice qo q1 qb, .int .i64 b.n, .int .i64 b.sl] 141)) (Obj.cells #[.int .i64 0, .slice none 0 0, .slice none 0 0, .int .i64 0, .int .i64 0] 141)
      rwa [World.size_alloc, World.size_alloc] at this
  have hM1 := hM0.slk (a.sl + b.sl)
  have hslk := hma.sl
  rw [← hS0] at hslk
  have hsl2 : 0 ≤ a.sl + b.sl ∧ a.sl + b.sl ≤ 2305843009213693952 := by
    have h1 : 0 ≤ a.sl + b.sl ∧ a.sl + b.sl ≤ 2305843009213693952 + ((0 : Nat) : Int) * 134217728 := hslk
    omega
  have j1 : IntKind.i64.wrap (a.sl + b.sl) = a.sl + b.sl := IntWalk.i64_in _ (by omega)
  have HM0 := Lib.hid hM0
  have HM1 := Lib.hid hM1
  have HXB := Lib.hid (fun wx (h : Below B w wx) => hxb.below (show Below w.heap.size w wx by rw [hB]; exact h))
  have HMS := Lib.hid hms
  have HADD := Lib.hid hadd
  have HJ := Lib.hid hJ
  have HW := Lib.hid hwA
  have HBX := Lib.hid hB
  have HS0 := Lib.hid hS0
  have HLB := Lib.hid hlb
  have HLQ := Lib.hid hq1
  have HLM := Lib.hid hbm
  have HKK := Lib.hid hkk
  have hbk := hma.k2
  clear hva hvb hxa hxb hma hms hadd hJ hM0 hM1 hslk hwA hB hlb hq1 hbm hS0 hwa hwb hkk
  go_enter Try.func101, Try.ntmps101
  go_upto_region 1 with (fail)
  rw [← HW.out]
  rw [HBX.out]
  obtain ⟨⟨d0, d1, d2, d3, d4⟩, ⟨f0, f1, f2, f3, f4⟩⟩ := bx5 HM0.out.box
  obtain ⟨⟨e0, e1, e2, e3, e4⟩, -⟩ := bx5 HM0.out.b3
  go_upto_region 2 with (fail)
  obtain ⟨wB, hwB⟩ : ∃ x, x = wA.setCell ⟨B, 4, none⟩ (.int .i64 (a.sl + b.sl)) := ⟨_, rfl⟩
  rw [← hwB]
  have HMB : Hid (MAt w B (.cells #[.int .i64 b.k, .slice bo m cb, .slice qo q1 qb, .int .i64 b.n, .int .i64 b.sl] 141 (0, 0)) S0 (.slice ao n ca) (.slice po p1 pa) wB) := Lib.hid (by rw [hwB, ← HS0.out]; exact HM1.out)
  clear hwB HW HM0 HM1 d0 d1 d2 d3 d4 f0 f1 f2 f3 f4 e0 e1 e2 e3 e4
  obtain ⟨⟨e0, e1, e2, e3, e4⟩, -⟩ := bx5 HMB.out.b3
  go_wp2_with fail
  go_loopw [5, 6, 7, 21] (fun y _ _ i wx => ∃ (j : Nat) (z : Int) (tO uO : Option Addr) (tn tc un uc : Nat), j ≤ q1 ∧ i = .int .i64 j ∧ y = .int .i64 z ∧ Hid (z = b.k * 2 ^ j) ∧ Hid (MAt w B (.cells #[.int .i64 b.k, .slice bo m cb, .slice qo q1 qb, .int .i64 b.n, .int .i64 b.sl] 141 (0, 0)) (stepTo S0 b.lv j) (.slice tO tn tc) (.slice uO un uc) wx)) (fun _ _ _ i _ => q1 - (intOf i).toNat)
  case atStart => exact ⟨0, _, _, _, _, _, _, _, Nat.zero_le _, rfl, rfl, Lib.hid (by simp), HMB⟩
  case round =>
    obtain ⟨j, z, tO, uO, tn, tc, un, uc, hj, rfl, rfl, HZ, HM⟩ := hrel
    have hzz := HZ.out
    have hmi := HMS.out j hj
    obtain ⟨Sj, hSj⟩ : ∃ Sj, stepTo S0 b.lv j = Sj := ⟨_, rfl⟩
    rw [hSj] at HM hmi
    obtain ⟨⟨m0, m1, m2, m3, m4⟩, ⟨f0, f1, f2, f3, f4⟩⟩ := bx5 HM.out.box
    clear e0 e1 e2 e3 e4
    obtain ⟨⟨e0, e1, e2, e3, e4⟩, -⟩ := bx5 HM.out.b3
    have hp := pow_le (i := j) (by omega)
    have hzb := mul_bnd (c := b.k) (p := 2 ^ j) (C := 64) (P := 1048576) (by rw [← HKK.out]; omega) (by rw [← HKK.out]; omega) (by omega) hp.2
    rw [← hzz] at hzb
    have hz2 : IntKind.i64.wrap (z * 2) = z * 2 := IntWalk.i64_in _ (by omega)
    have hz3 : wrap64 (z * 2) = z * 2 := IntWalk.wrap64_in _ (by omega)
    have HZ2 : Hid (z * 2 = b.k * 2 ^ (j + 1)) := Lib.hid (by rw [hzz, Int.pow_succ, Int.mul_assoc])
    have hnb := hmi.nn
    have hn2 : 0 ≤ Sj.n ∧ Sj.n ≤ 8589934592 := by
      have h20 : (j : Int) ≤ 20 := by omega
      omega
    have hsb : 0 ≤ Sj.sl ∧ Sj.sl ≤ 4611686018427387904 := by
      have h1 := hmi.sl
      have h20 : (j : Int) ≤ 20 := by omega
      omega
    have hz4 : IntKind.i64.wrap (Sj.n + z) = Sj.n + z := IntWalk.i64_in _ (by omega)
    have HSJ := Lib.hid hSj
    have HMI := Lib.hid hmi
    clear hp hzz hnb hmi hSj HZ
    by_cases hlt : j < q1
    · obtain ⟨l, hl⟩ : ∃ l, b.lv[j]? = some l := ⟨_, List.getElem?_eq_getElem (by rw [HLQ.out]; exact hlt)⟩
      have hlst := HLB.out l (List.mem_of_getElem? hl)
      obtain ⟨-, g, off, ta, rfl, c0, hns⟩ := (HXB.out _ HM.out.bel).level hl
      obtain ⟨lo, lc, rfl, -, -, -⟩ := hns.out.shape
      have HNS := Lib.hid hns
      have HST := Lib.hid (stepTo_step (s := S0) hl)
      obtain ⟨ln, hln⟩ : ∃ ln, l.length = ln := ⟨_, rfl⟩
      rw [hln] at c0 HNS
      have HLN := Lib.hid hln
      have HLST := Lib.hid hlst
      clear hl hlst hns hln
      by_cases h0 : ln = 0
      · have HEQ : Hid (stepTo S0 b.lv (j + 1) = Sj) := Lib.hid (by rw [HST.out, HSJ.out]; unfold levG; rw [if_pos (by rw [HLN.out]; exact h0)])
        clear HNS
        subst h0
        go_wp2_with fail
        go_roundw
        case rel => exact ⟨j + 1, _, _, _, _, _, _, _, by omega, by go_num, by go_num, HZ2, by rw [HEQ.out]; exact HM⟩
        case measure => simp [intOf]; omega
      · have HEQ : Hid (stepTo S0 b.lv (j + 1) = ⟨Sj.k, Sj.tl, (carryG Sj.lv Sj.sl l j).1, Sj.n + z, (carryG Sj.lv Sj.sl l j).2⟩) := Lib.hid (by
          rw [HST.out, HSJ.out]
          unfold levG
          rw [if_neg (by rw [HLN.out]; exact h0), HMI.out.kk, HKK.out, ← show z = b.k * 2 ^ j from by
            have h1 := HZ2.out
            rw [Int.pow_succ, ← Int.mul_assoc] at h1
            omega])
        have hpos : (0 : Int) < (ln : Int) := by omega
        have hmn : Sj.lv.length ≤ 30 := by have := HMI.out.short (by omega); omega
        go_upto_region 7 with (fail)
        go_wp2_with fail
        refine (Carried_any Sj.lv.length B j Sj.sl _ _ Sj l _ (by omega) ⟨HM.out.rk, ?n1, ?n2, hmn, by omega, HMI.out.lst, HLST.out.1, hsb.1, Int.le_add_of_nonneg_right (Int.le_of_lt (Int.pow_pos (by decide)))⟩ hsb).mono ?_
        case n1 => exact HNS.out
        case n2 => have := HM.out.lt; omega
        rintro e w5 ⟨v5, rfl, hx5, hb5⟩
        obtain ⟨R, hR⟩ : ∃ R : Rk, (⟨Sj.k, Sj.tl, (carryG Sj.lv Sj.sl l j).1, Sj.n, (carryG Sj.lv Sj.sl l j).2⟩ : Rk) = R := ⟨_, rfl⟩
        rw [hR] at hx5
        have hRn : R.n = Sj.n := by rw [← hR]
        obtain ⟨o1, n1, c1, o2, n2, c2, rfl, hx6⟩ := rkX_shape hx5
        have HEQ2 : Hid (stepTo S0 b.lv (j + 1) = ⟨R.k, R.tl, R.lv, R.n + z, R.sl⟩) := Lib.hid (by rw [HEQ.out, ← hR])
        have hM5 := HM.out.below hb5
        have hM6 := hM5.put hx6
        have HN := Lib.hid (hM6.num (R.n + z))
        have hz5 : IntKind.i64.wrap (R.n + z) = R.n + z := by rw [hRn]; exact hz4
        have hz6 : wrap64 (R.n + z) = R.n + z := IntWalk.wrap64_in _ (by omega)
        obtain ⟨⟨s0, s1, s2, s3, s4⟩, ⟨k0, k1, k2, k3, k4⟩⟩ := bx5 hM6.box
        clear m0 m1 m2 m3 m4 f0 f1 f2 f3 f4 e0 e1 e2 e3 e4 hx5 hR hb5
        obtain ⟨⟨m0, m1, m2, m3, m4⟩, ⟨f0, f1, f2, f3, f4⟩⟩ := bx5 hM5.box
        clear hM5 hM6 hx6 hRn hz4
        go_wp2_with fail
        go_roundw
        case rel => exact ⟨j + 1, z * 2, _, _, _, _, _, _, by omega, by go_num, by go_num, HZ2, by rw [HEQ2.out]; exact HN⟩
        case measure => simp [intOf]; omega
    · have hjq : j = q1 := by omega
      subst hjq
      obtain ⟨wE, rfl⟩ : ∃ x, x = wr := ⟨_, rfl⟩
      have HM0 := HM
      rw [← HSJ.out] at HM0
      clear m0 m1 m2 m3 m4 f0 f1 f2 f3 f4 hz2 hz3 hz4 hzb HZ2 hlt
      go_wp2_with fail
      go_loopw [9, 44] (fun _ i wx => ∃ (k : Nat) (tO uO : Option Addr) (tn tc un uc : Nat), k ≤ m ∧ i = .int .i64 k ∧ Hid (MAt w B (.cells #[.int .i64 b.k, .slice bo m cb, .slice qo j qb, .int .i64 b.n, .int .i64 b.sl] 141 (0, 0)) (addTo (stepTo S0 b.lv j) b.tl k) (.slice tO tn tc) (.slice uO un uc) wx)) (fun _ i _ => m - (intOf i).toNat)
      case atStart => exact ⟨0, _, _, _, _, _, _, Nat.zero_le _, rfl, HM0⟩
      case round =>
        obtain ⟨k, tO, uO, tn, tc, un, uc, hk, rfl, HMK⟩ := hrel
        have hmi := HADD.out k hk
        have HAS := Lib.hid (fun (v : Int) (hv : b.tl[k]? = some v) => addTo_step (s := stepTo S0 b.lv j) hv)
        have HJK := Lib.hid (show k = m → joinG a b = addTo (stepTo S0 b.lv j) b.tl k from fun h => by rw [HJ.out, h])
        obtain ⟨Sk, hSk⟩ : ∃ Sk, addTo (stepTo S0 b.lv j) b.tl k = Sk := ⟨_, rfl⟩
        rw [hSk] at HMK hmi HAS HJK
        obtain ⟨⟨m0, m1, m2, m3, m4⟩, ⟨f0, f1, f2, f3, f4⟩⟩ := bx5 HMK.out.box
        have hb4 : (j : Int) ≤ 20 ∧ (k : Int) ≤ 63 := by omega
        have hnb := hmi.nn
        have hsb := hmi.sl
        have hn2 : 0 ≤ Sk.n ∧ Sk.n ≤ 4611686018427387904 := by omega
        have hs2 : 0 ≤ Sk.sl ∧ Sk.sl ≤ 4611686018427387904 := by omega
        have hmn : Sk.lv.length ≤ 30 := by have := hmi.short (by omega); omega
        have ht63 : Sk.tl.length ≤ 63 := by have := hmi.tll; have := hmi.k2; omega
        have HMI := Lib.hid hmi
        clear hmi hnb hsb hSk
        by_cases hlt : k < m
        · obtain ⟨v, hv⟩ : ∃ v, b.tl[k]? = some v := ⟨_, List.getElem?_eq_getElem (by rw [HLM.out]; exact hlt)⟩
          have HEQ := Lib.hid (HAS.out v hv)
          obtain ⟨bb, off, rfl, c0⟩ := (HXB.out _ HMK.out.bel).nsx.out.at hv
          clear hv e0 e1 e2 e3 e4
          go_upto_region 14 with (fail)
          go_wp2_with fail
          refine (Ranked_any B _ Sk v _ ⟨HMK.out.rk, by have := HMK.out.lt; omega, hmn, HMI.out.lst, ht63, hn2, hs2⟩).mono ?_
          rintro e w5 ⟨v5, rfl, hx5, hb5⟩
          obtain ⟨R, hR⟩ : ∃ R : Rk, addG Sk v = R := ⟨_, rfl⟩
          rw [hR] at hx5 HEQ
          obtain ⟨o1, n1, c1, o2, n2, c2, rfl, hx6⟩ := rkX_shape hx5
          have hM5 := HMK.out.below hb5
          have hM6 := hM5.put hx6
          have HN := Lib.hid hM6
          clear m0 m1 m2 m3 m4 f0 f1 f2 f3 f4 hx5 hR hb5 hx6 hM6 c0
          obtain ⟨⟨m0, m1, m2, m3, m4⟩, ⟨f0, f1, f2, f3, f4⟩⟩ := bx5 hM5.box
          obtain ⟨⟨e0, e1, e2, e3, e4⟩, -⟩ := bx5 hM5.b3
          clear hM5
          go_wp2_with fail
          go_roundw
          case rel => exact ⟨k + 1, _, _, _, _, _, _, by omega, by go_num, by rw [HEQ.out]; exact HN⟩
          case measure => simp [intOf]; omega
        · have HJJ := Lib.hid (HJK.out (by omega))
          have z2 := HMK.out.b4
          obtain ⟨⟨r0, r1, r2, r3, r4⟩, ⟨h0, h1, h2, h3, h4⟩⟩ := bx5 z2
          have hst := bx5_store (.int .i64 Sk.k) (.slice tO tn tc) (.slice uO un uc) (.int .i64 Sk.n) (.int .i64 Sk.sl) z2
          obtain ⟨⟨s0, s1, s2, s3, s4⟩, -⟩ := bx5 hst
          have HBF := Lib.hid (bx5_below (.int .i64 Sk.k) (.slice tO tn tc) (.slice uO un uc) (.int .i64 Sk.n) (.int .i64 Sk.sl) (show B ≤ B + 1 + 1 by omega) HMK.out.bel)
          have HRK := Lib.hid (HMK.out.rk.go (Ag.stores5 (x0 := .int .i64 Sk.k) (x1 := .slice tO tn tc) (x2 := .slice uO un uc) (x3 := .int .i64 Sk.n) (x4 := .int .i64 Sk.sl) (show B ≤ B + 1 + 1 by omega) z2 KL_rk)).rk
          clear hst z2 e0 e1 e2 e3 e4
          go_wp2_with fail
          refine bodyPost_ret (v := .agg #[.int .i64 Sk.k, .slice tO tn tc, .slice uO un uc, .int .i64 Sk.n, .int .i64 Sk.sl]) (by simp [results, Try.results101, go_sem, s0, s1, s2, s3, s4]) rfl ?_
          refine ⟨_, rfl, ?_, by rw [HBX.out]; exact HBF.out⟩
          rw [HJJ.out]
          exact HRK.out
end Go.Proofs.Ytcljeedmiobepaa.Rk
