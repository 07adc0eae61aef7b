/-
  Tallies of what is heavy: the walks of Tallied and SameHeavy.
-/
import Derived.Test.YtcljeedmiobepaaHv6
import Derived.Deep.QuietTactic
import Derived.BigQuiet
namespace Go.Proofs.Ytcljeedmiobepaa.Hv
open Go.RowKit Go.Gh
set_option linter.unusedVariables false
set_option maxHeartbeats 8000000 in
set_option maxRecDepth 100000 in
theorem tallied_any (v : Value) (s : Hv) (key : ByteArray) (w : World) (hv : HvV w v s) (hok : wellH s) (hks : key.size ≤ 40) (hns : ¬ s.n = 1000000000) :
    Calls Try.prog 56 #[v, .string key] w fun e w' => ∃ v', e = .returned v' ∧ HvV w' v' (tallyF s key) ∧ Below w.heap.size w w' := by
  have HV := Lib.hid hv
  obtain ⟨t, rfl, hs⟩ := hv
  obtain ⟨ao, c, rfl, hnc, hc⟩ := hs.shape
  obtain ⟨m, hm⟩ : ∃ m, s.l.length = m := ⟨_, rfl⟩
  rw [hm] at hs hnc HV ⊢
  have HM := Lib.hid hm
  have HS := Lib.hid hs
  have hhd := headH_ok.1 hok.1
  have hm64 : m ≤ 64 := by omega
  have hw1 : IntKind.i64.wrap (s.n + 1) = s.n + 1 := IntWalk.i64_in _ (by omega)
  have hw2 : IntKind.i64.wrap (s.off + 1) = s.off + 1 := IntWalk.i64_in _ (by omega)
  have HMILD := Lib.hid (mild_of hok)
  have HSH := Lib.hid (short_of hok)
  clear hm hs hok hhd
  obtain ⟨wA, hwA⟩ : ∃ wA, wA = (w.alloc (Obj.cells #[.int .i64 s.k, .slice ao m c, .int .i64 s.n, .int .i64 s.off] 86)).alloc (Obj.cells #[.int .i64 0, .slice none 0 0, .int .i64 0, .int .i64 0] 86) := ⟨_, rfl⟩
  have hb1 : wA.heap[w.heap.size]? = some (.cells #[.int .i64 s.k, .slice ao m c, .int .i64 s.n, .int .i64 s.off] 86 (0, 0)) := by rw [hwA]; exact two_first w _ _
  have hb2 : wA.heap[w.heap.size + 1]? = some (.cells #[.int .i64 0, .slice none 0 0, .int .i64 0, .int .i64 0] 86 (0, 0)) := by rw [hwA]; exact two_second w _ _
  have hbA : Below w.heap.size w wA := by rw [hwA]; exact ((Below.refl _ _).alloc (Nat.le_refl _) _).alloc (by simp) _
  have HW := Lib.hid hwA
  have HBA := Lib.hid hbA
  have HB1 := Lib.hid hb1
  have HB2 := Lib.hid hb2
  clear hwA hbA hb1 hb2
  go_enter Try.func56, Try.ntmps56
  go_upto_region 1 with (fail)
  rw [← HW.out]
  obtain ⟨bx, hbx⟩ : ∃ bx, w.heap.size = bx := ⟨_, rfl⟩
  have HBX := Lib.hid hbx
  have y1 := HB1.out
  have y2 := HB2.out
  rw [hbx] at y1 y2 ⊢
  have hwb : w.heap.size ≤ bx := Nat.le_of_eq hbx
  clear hbx
  have z1 := row_setCell 2 (.int .i64 (s.n + 1)) y1
  have z2 := row_setCell_other (i := 2) (b' := bx) (.int .i64 (s.n + 1)) y2 (by omega)
  have HBW2 := Lib.hid (HBA.out.setCell (p := ⟨bx, 2, none⟩) hwb (.int .i64 (s.n + 1)))
  have HZ1 := Lib.hid z1
  have HZ2 := Lib.hid z2
  clear z1 z2
  obtain ⟨⟨d0, d1, d2, d3⟩, ⟨f0, f1, f2, f3⟩⟩ := bx4 y1
  go_upto_region 2 with (fail)
  obtain ⟨w2, hw2e⟩ : ∃ w2, w2 = wA.setCell ⟨bx, 2, none⟩ (.int .i64 (s.n + 1)) := ⟨_, rfl⟩
  have X1 : w2.heap[bx]? = some (.cells #[.int .i64 s.k, .slice ao m c, .int .i64 (s.n + 1), .int .i64 s.off] 86 (0, 0)) := by rw [hw2e]; exact HZ1.out
  have X2 : w2.heap[bx + 1]? = some (.cells #[.int .i64 0, .slice none 0 0, .int .i64 0, .int .i64 0] 86 (0, 0)) := by rw [hw2e]; exact HZ2.out
  have BW2 : Hid (Below w.heap.size w w2) := Lib.hid (by rw [hw2e]; exact HBW2.out)
  rw [← hw2e]
  clear hw2e HZ1 HZ2 HBW2 HB1 HB2 HBA HW y1 y2 d0 d1 d2 d3 f0 f1 f2 f3
  have HSP : Hid (Sp CtR 2 w2 (.slice ao m c) s.l) := Lib.hid (HS.out.below ctR_mono BW2.out)
  have hl1 : bx < w2.heap.size := (Array.getElem?_eq_some_iff.1 X1).1
  have hl2 : bx + 1 < w2.heap.size := (Array.getElem?_eq_some_iff.1 X2).1
  obtain ⟨Z, hZ⟩ : ∃ Z, cntIn key s.l = Z := ⟨_, rfl⟩
  have HZ := Lib.hid hZ
  obtain ⟨⟨d0, d1, d2, d3⟩, -⟩ := bx4 X1
  clear hZ
  go_wp2_with fail
  refine (countin_any _ key s.l _ HSP.out hks HSH.out).mono ?_
  rw [HZ.out]
  rintro e w3 ⟨rfl, hb3⟩
  have BW3 := Lib.hid (BW2.out.trans (hb3.mono BW2.out.size))
  have HSP3 := Lib.hid (HSP.out.below ctR_mono hb3)
  replace X1 := (hb3.block _ hl1).trans X1
  replace X2 := (hb3.block _ hl2).trans X2
  have hs3 := hb3.size
  clear d0 d1 d2 d3 hb3 HSP BW2
  obtain ⟨⟨d0, d1, d2, d3⟩, -⟩ := bx4 X1
  have hl3 : bx < w3.heap.size := by omega
  have hl4 : bx + 1 < w3.heap.size := by omega
  by_cases hc1 : 0 < Z
  · have hc1b := hc1
    go_wp2_with fail
    refine (counted_any _ key 1 s.l _ HSP3.out (by have := HM.out; omega) (by omega) (by omega) HMILD.out hks HSH.out).mono ?_
    rintro e w4 ⟨v4, rfl, how4, hb4⟩
    obtain ⟨q, hq⟩ : ∃ q, (cnted key 1 s.l false).length = q := ⟨_, rfl⟩
    obtain ⟨Q, hQ1, hQ2, hQ3, hown4⟩ := how4
    rw [hq] at hown4
    obtain ⟨ao4, c4, rfl, hnc4, -, -⟩ := own_shape hown4
    have Y1 := (hb4.block _ hl3).trans X1
    have Y2 := (hb4.block _ hl4).trans X2
    have HB4 : Below w.heap.size w w4 := BW3.out.trans (hb4.mono BW3.out.size)
    have NE4 : ∀ g, (Value.slice ao4 q c4).ownBlock = some g → w3.heap.size ≤ g := fun g h => (hown4.lt g h).1
    have NE : (Value.slice ao4 q c4).ownBlock ≠ some (bx + 1) := fun h => by have := NE4 _ h; omega
    have NE7 : (Value.slice ao4 q c4).ownBlock ≠ some bx := fun h => by have := NE4 _ h; omega
    have HFIN : Hid (∀ W, Sl W 2 (.slice ao4 q c4) q (pc Q) → HvV W (.agg #[.int .i64 s.k, .slice ao4 q c4, .int .i64 (s.n + 1), .int .i64 (s.off)]) (tallyF s key)) := Lib.hid (fun W h => by
      rw [show tallyF s key = ⟨s.k, cnted key 1 s.l false, s.n + 1, s.off⟩ from by unfold tallyF; rw [HZ.out, HM.out]; exact if_pos (Or.inl hc1)]
      exact ⟨_, rfl, Q, hQ1, hQ2, hQ3, by dsimp only; rw [hq]; exact h⟩)
    have HY := Lib.hid (row_setCell 1 (.slice ao4 q c4) Y1)
    have HO7 := Lib.hid (ownsRow_setCell_other hown4 (a := ⟨bx, 1, none⟩) NE7 (.slice ao4 q c4))
    have HX1 := HY
    have HX2 := Lib.hid (row_setCell_other (i := 1) (b' := bx) (.slice ao4 q c4) Y2 (by omega))
    have HB7 := Lib.hid (HB4.setCell (p := ⟨bx, 1, none⟩) hwb (.slice ao4 q c4))
    clear d0 d1 d2 d3 X1 X2 hown4 HB4 hb4
    obtain ⟨⟨d0, d1, d2, d3⟩, ⟨f0, f1, f2, f3⟩⟩ := bx4 Y1
    obtain ⟨⟨y0, y1, y2, y3⟩, ⟨z0, z1, z2, z3⟩⟩ := bx4 HY.out
    clear Y1 Y2
    go_upto_region 4 with (fail)
    obtain ⟨w7, hw7⟩ : ∃ w7, w7 = w4.setCell ⟨bx, 1, none⟩ (.slice ao4 q c4) := ⟨_, rfl⟩
    have X1 : w7.heap[bx]? = some (.cells #[.int .i64 s.k, .slice ao4 q c4, .int .i64 (s.n + 1), .int .i64 (s.off)] 86 (0, 0)) := by rw [hw7]; exact HX1.out
    have X2 : w7.heap[bx + 1]? = some (.cells #[.int .i64 0, .slice none 0 0, .int .i64 0, .int .i64 0] 86 (0, 0)) := by rw [hw7]; exact HX2.out
    have BW : Below w.heap.size w w7 := by rw [hw7]; exact HB7.out
    have OWN : w7.ownsRow w3.heap.size 175 2 (.slice ao4 q c4) q (pc Q) := by rw [hw7]; exact HO7.out
    rw [← hw7]
    clear hw7 HY HX1 HX2 HB7 HO7 d0 d1 d2 d3 f0 f1 f2 f3 y0 y1 y2 y3 z0 z1 z2 z3
    obtain ⟨⟨a0, a1, a2, a3⟩, -⟩ := bx4 X1
    obtain ⟨⟨r0, r1, r2, r3⟩, ⟨h0, h1, h2, h3⟩⟩ := bx4 X2
    have hst := bx4_store (.int .i64 s.k) (.slice ao4 q c4) (.int .i64 (s.n + 1)) (.int .i64 (s.off)) X2
    obtain ⟨⟨s0, s1, s2, s3⟩, -⟩ := bx4 hst
    have HBF := Lib.hid (bx4_below (.int .i64 s.k) (.slice ao4 q c4) (.int .i64 (s.n + 1)) (.int .i64 (s.off)) (show w.heap.size ≤ bx + 1 by omega) BW)
    have HSF := Lib.hid (own_sl (own_stores_other (b := bx + 1) NE [.int .i64 s.k, .slice ao4 q c4, .int .i64 (s.n + 1), .int .i64 (s.off)] _ 0 OWN))
    clear hst X1 X2 BW OWN NE
    go_wp2_with fail
    refine bodyPost_ret (v := .agg #[.int .i64 s.k, .slice ao4 q c4, .int .i64 (s.n + 1), .int .i64 (s.off)]) (by simp [results, Try.results56, go_sem, s0, s1, s2, s3]) rfl ?_
    exact ⟨_, rfl, HFIN.out _ HSF.out, HBF.out⟩
  by_cases hc2 : (m : Int) < s.k
  ·
    go_wp2_with fail
    refine (counted_any _ key 1 s.l _ HSP3.out (by have := HM.out; omega) (by omega) (by omega) HMILD.out hks HSH.out).mono ?_
    rintro e w4 ⟨v4, rfl, how4, hb4⟩
    obtain ⟨q, hq⟩ : ∃ q, (cnted key 1 s.l false).length = q := ⟨_, rfl⟩
    obtain ⟨Q, hQ1, hQ2, hQ3, hown4⟩ := how4
    rw [hq] at hown4
    obtain ⟨ao4, c4, rfl, hnc4, -, -⟩ := own_shape hown4
    have Y1 := (hb4.block _ hl3).trans X1
    have Y2 := (hb4.block _ hl4).trans X2
    have HB4 : Below w.heap.size w w4 := BW3.out.trans (hb4.mono BW3.out.size)
    have NE4 : ∀ g, (Value.slice ao4 q c4).ownBlock = some g → w3.heap.size ≤ g := fun g h => (hown4.lt g h).1
    have NE : (Value.slice ao4 q c4).ownBlock ≠ some (bx + 1) := fun h => by have := NE4 _ h; omega
    have NE7 : (Value.slice ao4 q c4).ownBlock ≠ some bx := fun h => by have := NE4 _ h; omega
    have HFIN : Hid (∀ W, Sl W 2 (.slice ao4 q c4) q (pc Q) → HvV W (.agg #[.int .i64 s.k, .slice ao4 q c4, .int .i64 (s.n + 1), .int .i64 (s.off)]) (tallyF s key)) := Lib.hid (fun W h => by
      rw [show tallyF s key = ⟨s.k, cnted key 1 s.l false, s.n + 1, s.off⟩ from by unfold tallyF; rw [HZ.out, HM.out]; exact if_pos (Or.inr hc2)]
      exact ⟨_, rfl, Q, hQ1, hQ2, hQ3, by dsimp only; rw [hq]; exact h⟩)
    have HY := Lib.hid (row_setCell 1 (.slice ao4 q c4) Y1)
    have HO7 := Lib.hid (ownsRow_setCell_other hown4 (a := ⟨bx, 1, none⟩) NE7 (.slice ao4 q c4))
    have HX1 := HY
    have HX2 := Lib.hid (row_setCell_other (i := 1) (b' := bx) (.slice ao4 q c4) Y2 (by omega))
    have HB7 := Lib.hid (HB4.setCell (p := ⟨bx, 1, none⟩) hwb (.slice ao4 q c4))
    clear d0 d1 d2 d3 X1 X2 hown4 HB4 hb4
    obtain ⟨⟨d0, d1, d2, d3⟩, ⟨f0, f1, f2, f3⟩⟩ := bx4 Y1
    obtain ⟨⟨y0, y1, y2, y3⟩, ⟨z0, z1, z2, z3⟩⟩ := bx4 HY.out
    clear Y1 Y2
    go_upto_region 4 with (fail)
    obtain ⟨w7, hw7⟩ : ∃ w7, w7 = w4.setCell ⟨bx, 1, none⟩ (.slice ao4 q c4) := ⟨_, rfl⟩
    have X1 : w7.heap[bx]? = some (.cells #[.int .i64 s.k, .slice ao4 q c4, .int .i64 (s.n + 1), .int .i64 (s.off)] 86 (0, 0)) := by rw [hw7]; exact HX1.out
    have X2 : w7.heap[bx + 1]? = some (.cells #[.int .i64 0, .slice none 0 0, .int .i64 0, .int .i64 0] 86 (0, 0)) := by rw [hw7]; exact HX2.out
    have BW : Below w.heap.size w w7 := by rw [hw7]; exact HB7.out
    have OWN : w7.ownsRow w3.heap.size 175 2 (.slice ao4 q c4) q (pc Q) := by rw [hw7]; exact HO7.out
    rw [← hw7]
    clear hw7 HY HX1 HX2 HB7 HO7 d0 d1 d2 d3 f0 f1 f2 f3 y0 y1 y2 y3 z0 z1 z2 z3
    obtain ⟨⟨a0, a1, a2, a3⟩, -⟩ := bx4 X1
    obtain ⟨⟨r0, r1, r2, r3⟩, ⟨h0, h1, h2, h3⟩⟩ := bx4 X2
    have hst := bx4_store (.int .i64 s.k) (.slice ao4 q c4) (.int .i64 (s.n + 1)) (.int .i64 (s.off)) X2
    obtain ⟨⟨s0, s1, s2, s3⟩, -⟩ := bx4 hst
    have HBF := Lib.hid (bx4_below (.int .i64 s.k) (.slice ao4 q c4) (.int .i64 (s.n + 1)) (.int .i64 (s.off)) (show w.heap.size ≤ bx + 1 by omega) BW)
    have HSF := Lib.hid (own_sl (own_stores_other (b := bx + 1) NE [.int .i64 s.k, .slice ao4 q c4, .int .i64 (s.n + 1), .int .i64 (s.off)] _ 0 OWN))
    clear hst X1 X2 BW OWN NE
    go_wp2_with fail
    refine bodyPost_ret (v := .agg #[.int .i64 s.k, .slice ao4 q c4, .int .i64 (s.n + 1), .int .i64 (s.off)]) (by simp [results, Try.results56, go_sem, s0, s1, s2, s3]) rfl ?_
    exact ⟨_, rfl, HFIN.out _ HSF.out, HBF.out⟩
  go_wp2_with fail
  refine (lessened_any _ 1 s.l _ HSP3.out (by have := HM.out; omega) (by omega) (by omega) HMILD.out).mono ?_
  rintro e w4 ⟨v4, rfl, how4, hb4⟩
  obtain ⟨q, hq⟩ : ∃ q, (lessF 1 s.l).length = q := ⟨_, rfl⟩
  obtain ⟨Q, hQ1, hQ2, hQ3, hown4⟩ := how4
  rw [hq] at hown4
  obtain ⟨ao4, c4, rfl, hnc4, -, -⟩ := own_shape hown4
  have Y1 := (hb4.block _ hl3).trans X1
  have Y2 := (hb4.block _ hl4).trans X2
  have HB4 : Below w.heap.size w w4 := BW3.out.trans (hb4.mono BW3.out.size)
  have NE4 : ∀ g, (Value.slice ao4 q c4).ownBlock = some g → w3.heap.size ≤ g := fun g h => (hown4.lt g h).1
  have NE : (Value.slice ao4 q c4).ownBlock ≠ some (bx + 1) := fun h => by have := NE4 _ h; omega
  have NE7 : (Value.slice ao4 q c4).ownBlock ≠ some bx := fun h => by have := NE4 _ h; omega
  have HFIN : Hid (∀ W, Sl W 2 (.slice ao4 q c4) q (pc Q) → HvV W (.agg #[.int .i64 s.k, .slice ao4 q c4, .int .i64 (s.n + 1), .int .i64 (s.off + 1)]) (tallyF s key)) := Lib.hid (fun W h => by
    rw [show tallyF s key = ⟨s.k, lessF 1 s.l, s.n + 1, s.off + 1⟩ from by unfold tallyF; rw [HZ.out, HM.out]; exact if_neg (by omega)]
    exact ⟨_, rfl, Q, hQ1, hQ2, hQ3, by dsimp only; rw [hq]; exact h⟩)
  have HY := Lib.hid (row_setCell 1 (.slice ao4 q c4) Y1)
  have HO7 := Lib.hid (ownsRow_setCell_other (ownsRow_setCell_other hown4 (a := ⟨bx, 1, none⟩) NE7 (.slice ao4 q c4)) (a := ⟨bx, 3, none⟩) NE7 (.int .i64 (s.off + 1)))
  have HX1 := Lib.hid (row_setCell 3 (.int .i64 (s.off + 1)) HY.out)
  have HX2 := Lib.hid (row_setCell_other (i := 3) (b' := bx) (.int .i64 (s.off + 1)) (row_setCell_other (i := 1) (b' := bx) (.slice ao4 q c4) Y2 (by omega)) (by omega))
  have HB7 := Lib.hid ((HB4.setCell (p := ⟨bx, 1, none⟩) hwb (.slice ao4 q c4)).setCell (p := ⟨bx, 3, none⟩) hwb (.int .i64 (s.off + 1)))
  clear d0 d1 d2 d3 X1 X2 hown4 HB4 hb4
  obtain ⟨⟨d0, d1, d2, d3⟩, ⟨f0, f1, f2, f3⟩⟩ := bx4 Y1
  obtain ⟨⟨y0, y1, y2, y3⟩, ⟨z0, z1, z2, z3⟩⟩ := bx4 HY.out
  clear Y1 Y2
  go_upto_region 7 with (fail)
  obtain ⟨w7, hw7⟩ : ∃ w7, w7 = (w4.setCell ⟨bx, 1, none⟩ (.slice ao4 q c4)).setCell ⟨bx, 3, none⟩ (.int .i64 (s.off + 1)) := ⟨_, rfl⟩
  have X1 : w7.heap[bx]? = some (.cells #[.int .i64 s.k, .slice ao4 q c4, .int .i64 (s.n + 1), .int .i64 (s.off + 1)] 86 (0, 0)) := by rw [hw7]; exact HX1.out
  have X2 : w7.heap[bx + 1]? = some (.cells #[.int .i64 0, .slice none 0 0, .int .i64 0, .int .i64 0] 86 (0, 0)) := by rw [hw7]; exact HX2.out
  have BW : Below w.heap.size w w7 := by rw [hw7]; exact HB7.out
  have OWN : w7.ownsRow w3.heap.size 175 2 (.slice ao4 q c4) q (pc Q) := by rw [hw7]; exact HO7.out
  rw [← hw7]
  clear hw7 HY HX1 HX2 HB7 HO7 d0 d1 d2 d3 f0 f1 f2 f3 y0 y1 y2 y3 z0 z1 z2 z3
  obtain ⟨⟨a0, a1, a2, a3⟩, -⟩ := bx4 X1
  obtain ⟨⟨r0, r1, r2, r3⟩, ⟨h0, h1, h2, h3⟩⟩ := bx4 X2
  have hst := bx4_store (.int .i64 s.k) (.slice ao4 q c4) (.int .i64 (s.n + 1)) (.int .i64 (s.off + 1)) X2
  obtain ⟨⟨s0, s1, s2, s3⟩, -⟩ := bx4 hst
  have HBF := Lib.hid (bx4_below (.int .i64 s.k) (.slice ao4 q c4) (.int .i64 (s.n + 1)) (.int .i64 (s.off + 1)) (show w.heap.size ≤ bx + 1 by omega) BW)
  have HSF := Lib.hid (own_sl (own_stores_other (b := bx + 1) NE [.int .i64 s.k, .slice ao4 q c4, .int .i64 (s.n + 1), .int .i64 (s.off + 1)] _ 0 OWN))
  clear hst X1 X2 BW OWN NE
  go_wp2_with fail
  refine bodyPost_ret (v := .agg #[.int .i64 s.k, .slice ao4 q c4, .int .i64 (s.n + 1), .int .i64 (s.off + 1)]) (by simp [results, Try.results56, go_sem, s0, s1, s2, s3]) rfl ?_
  exact ⟨_, rfl, HFIN.out _ HSF.out, HBF.out⟩
set_option maxHeartbeats 4000000 in
set_option maxRecDepth 100000 in
theorem sameheavy_any (v u : Value) (s : Hv) (w : World) (hv : HvV w v s) (hu : HvV w u s) :
    Calls Try.prog 52 #[v, u] w fun e w' => e = .returned (.bool true) ∧ Below w.heap.size w w' := by
  obtain ⟨t, rfl, hs⟩ := hv
  obtain ⟨ao, c, rfl, hnc, hc⟩ := hs.shape
  obtain ⟨t', rfl, ht⟩ := hu
  obtain ⟨bo, d, rfl, hod, hd⟩ := ht.shape
  obtain ⟨n, hn⟩ : ∃ n, s.l.length = n := ⟨_, rfl⟩
  rw [hn] at hs ht hnc hod ⊢
  have HN := Lib.hid hn
  obtain ⟨wA, hwA⟩ : ∃ wA, wA = (w.alloc (Obj.cells #[.int .i64 s.k, .slice ao n c, .int .i64 s.n, .int .i64 s.off] 86)).alloc (Obj.cells #[.int .i64 s.k, .slice bo n d, .int .i64 s.n, .int .i64 s.off] 86) := ⟨_, rfl⟩
  have hb1 : wA.heap[w.heap.size]? = some (.cells #[.int .i64 s.k, .slice ao n c, .int .i64 s.n, .int .i64 s.off] 86 (0, 0)) := by rw [hwA]; exact two_first w _ _
  have hb2 : wA.heap[w.heap.size + 1]? = some (.cells #[.int .i64 s.k, .slice bo n d, .int .i64 s.n, .int .i64 s.off] 86 (0, 0)) := by rw [hwA]; exact two_second w _ _
  have hbA : Below w.heap.size w wA := by rw [hwA]; exact ((Below.refl _ _).alloc (Nat.le_refl _) _).alloc (by simp) _
  have HS := Lib.hid (hs.below ctR_mono hbA)
  have HT := Lib.hid (ht.below ctR_mono hbA)
  have HW := Lib.hid hwA
  have HBA := Lib.hid hbA
  have HB1 := Lib.hid hb1
  have HB2 := Lib.hid hb2
  clear hwA hbA hb1 hb2 hs ht hn
  go_enter Try.func52, Try.ntmps52
  go_upto_region 1 with (fail)
  rw [← HW.out]
  obtain ⟨bx, hbx⟩ : ∃ bx, w.heap.size = bx := ⟨_, rfl⟩
  have HBX := Lib.hid hbx
  have y1 := HB1.out
  have y2 := HB2.out
  rw [hbx] at y1 y2 ⊢
  have hl1 : bx < wA.heap.size := (Array.getElem?_eq_some_iff.1 y1).1
  have hl2 : bx + 1 < wA.heap.size := (Array.getElem?_eq_some_iff.1 y2).1
  clear hbx HW
  have hz0 : (s.k != s.k) = false := by simp
  have hz1 : (s.n != s.n) = false := by simp
  have hz2 : (s.off != s.off) = false := by simp
  obtain ⟨⟨d0, d1, d2, d3⟩, -⟩ := bx4 y1
  obtain ⟨⟨e0, e1, e2, e3⟩, -⟩ := bx4 y2
  go_wp2_with fail
  go_loopw [37] (fun i wr => ∃ k : Nat, k ≤ n ∧ i = .int .i64 k ∧ Below wA.heap.size wA wr) (fun i _ => n - (intOf i).toNat)
  case atStart => exact ⟨0, by omega, rfl, Below.refl _ _⟩
  case round =>
    obtain ⟨k, hk, rfl, hbr⟩ := hrel
    have Y1 := (hbr.block _ hl1).trans y1
    have Y2 := (hbr.block _ hl2).trans y2
    clear d0 d1 d2 d3 e0 e1 e2 e3
    obtain ⟨⟨d0, d1, d2, d3⟩, -⟩ := bx4 Y1
    obtain ⟨⟨e0, e1, e2, e3⟩, -⟩ := bx4 Y2
    by_cases hlt : k < n
    · obtain ⟨x, hx⟩ : ∃ x, s.l[k]? = some x := ⟨_, List.getElem?_eq_getElem (by rw [HN.out]; exact hlt)⟩
      obtain ⟨b, off, cs, rfl, rfl, _, hck⟩ := (HS.out.below ctR_mono hbr).get hx
      obtain ⟨b', off', cs', rfl, rfl, _, hck'⟩ := (HT.out.below ctR_mono hbr).get hx
      have c0 := hck 0 _ rfl
      have c1 := hck 1 _ rfl
      have g0 := hck' 0 _ rfl
      have g1 := hck' 1 _ rfl
      rw [Nat.add_zero] at c0 g0
      clear hck hck' hx Y1 Y2
      go_wp2_with fail
      refine wp_region_quiet_lit (by kernel_rfl) (by kernel_rfl) ?_
      repeat (go_big_quiet_step (fail))
      refine wpQuiet_nil ?_
      rintro _ ⟨nq, rfl⟩
      go_wp2
      go_roundw
      case rel => exact ⟨k + 1, by omega, by go_num, below_drewN hbr _⟩
      case measure => simp [intOf]; omega
    · obtain rfl : k = n := by omega
      go_wp2_with fail
      go_ret
      exact ⟨rfl, HBA.out.trans (hbr.mono HBA.out.size)⟩
end Go.Proofs.Ytcljeedmiobepaa.Hv
