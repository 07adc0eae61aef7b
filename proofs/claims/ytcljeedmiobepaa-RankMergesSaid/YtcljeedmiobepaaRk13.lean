/-
  Ranks: the walk of Add.
-/
import Derived.Test.YtcljeedmiobepaaRk12
namespace Go.Proofs.Ytcljeedmiobepaa.Rk
open Go.RowKit Go.Gh
set_option linter.unusedVariables false
set_option maxHeartbeats 4000000 in
set_option maxRecDepth 100000 in
theorem bounded2_any (v : Value) (s : Rk) (w : World) (hv : RkV w v s) : Calls Try.prog 152 #[v] w fun e w' => Below w.heap.size w w' ∧ ((boundG s = (rk0, 2) ∧ e = .returned (.tuple #[.agg #[.int .i64 0, .slice none 0 0, .slice none 0 0, .int .i64 0, .int .i64 0], .int .i64 2])) ∨ (boundG s = (s, 0) ∧ e = .returned (.tuple #[v, .int .i64 0]))) := by
  have HV := Lib.hid hv
  obtain ⟨t, u, rfl, ht, hu⟩ := hv
  obtain ⟨ao, c, rfl, -, -, -⟩ := ht.shape
  obtain ⟨bo, d, rfl, -, -⟩ := hu.shape
  obtain ⟨L, hL⟩ : ∃ n, s.lv.length = n := ⟨_, rfl⟩
  obtain ⟨n, hn⟩ : ∃ n, s.tl.length = n := ⟨_, rfl⟩
  rw [hn, hL] at HV ⊢
  have HL := Lib.hid hL
  obtain ⟨R, hR⟩ : ∃ R, boundG s = R := ⟨_, rfl⟩
  have HR := Lib.hid hR
  rw [hR]
  clear hR
  obtain ⟨wA, hwA⟩ : ∃ wA, wA = (w.alloc (Obj.cells #[.int .i64 s.k, .slice ao n c, .slice bo L d, .int .i64 s.n, .int .i64 s.sl] 141)).alloc (Obj.cells #[.int .i64 0, .slice none 0 0, .slice none 0 0, .int .i64 0, .int .i64 0] 141) := ⟨_, rfl⟩
  have hb1 : wA.heap[w.heap.size]? = some (.cells #[.int .i64 s.k, .slice ao n c, .slice bo L d, .int .i64 s.n, .int .i64 s.sl] 141 (0, 0)) := by rw [hwA]; exact two_first w _ _
  have hb2 : wA.heap[w.heap.size + 1]? = some (.cells #[.int .i64 0, .slice none 0 0, .slice none 0 0, .int .i64 0, .int .i64 0] 141 (0, 0)) := by rw [hwA]; exact two_second w _ _
  have hbA : Below w.heap.size w wA := by rw [hwA]; exact ((Below.refl _ _).alloc (Nat.le_refl _) _).alloc (by simp) _
  have HW := Lib.hid hwA
  have HBA := Lib.hid hbA
  obtain ⟨⟨d0, d1, d2, d3, d4⟩, -⟩ := bx5 hb1
  obtain ⟨⟨q0, q1, q2, q3, q4⟩, ⟨f0, f1, f2, f3, f4⟩⟩ := bx5 hb2
  clear hL hn ht hu hwA hb1 hbA
  go_enter Try.func152, Try.ntmps152
  go_upto_region 1 with (fail)
  rw [← HW.out]
  by_cases h1 : 20 < L
  · have HE : Hid (R = (rk0, 2)) := Lib.hid (by rw [← HR.out]; unfold boundG; rw [if_pos (Or.inl (by rw [HL.out]; exact h1))])
    go_upto_region 2 with (fail)
    have hst := bx5_store (.int .i64 0) (.slice none 0 0) (.slice none 0 0) (.int .i64 0) (.int .i64 0) hb2
    obtain ⟨⟨s0, s1, s2, s3, s4⟩, -⟩ := bx5 hst
    have HBF := Lib.hid (bx5_below (.int .i64 0) (.slice none 0 0) (.slice none 0 0) (.int .i64 0) (.int .i64 0) (show w.heap.size ≤ w.heap.size + 1 by omega) HBA.out)
    clear hst hb2
    go_wp2_with fail
    refine bodyPost_ret (v := .tuple #[.agg #[.int .i64 0, .slice none 0 0, .slice none 0 0, .int .i64 0, .int .i64 0], .int .i64 2]) (by simp [results, Try.results152, go_sem, s0, s1, s2, s3, s4]) rfl ?_
    exact ⟨HBF.out, Or.inl ⟨HE.out, rfl⟩⟩
  by_cases h2 : 1152921504606846976 < s.sl
  · have HE : Hid (R = (rk0, 2)) := Lib.hid (by rw [← HR.out]; unfold boundG; rw [if_pos (Or.inr h2)])
    go_upto_region 2 with (fail)
    have hst := bx5_store (.int .i64 0) (.slice none 0 0) (.slice none 0 0) (.int .i64 0) (.int .i64 0) hb2
    obtain ⟨⟨s0, s1, s2, s3, s4⟩, -⟩ := bx5 hst
    have HBF := Lib.hid (bx5_below (.int .i64 0) (.slice none 0 0) (.slice none 0 0) (.int .i64 0) (.int .i64 0) (show w.heap.size ≤ w.heap.size + 1 by omega) HBA.out)
    clear hst hb2
    go_wp2_with fail
    refine bodyPost_ret (v := .tuple #[.agg #[.int .i64 0, .slice none 0 0, .slice none 0 0, .int .i64 0, .int .i64 0], .int .i64 2]) (by simp [results, Try.results152, go_sem, s0, s1, s2, s3, s4]) rfl ?_
    exact ⟨HBF.out, Or.inl ⟨HE.out, rfl⟩⟩
  have HE : Hid (R = (s, 0)) := Lib.hid (by rw [← HR.out]; unfold boundG; rw [if_neg (by rw [HL.out]; omega)])
  go_upto_region 3 with (fail)
  have hst := bx5_store (.int .i64 s.k) (.slice ao n c) (.slice bo L d) (.int .i64 s.n) (.int .i64 s.sl) hb2
  obtain ⟨⟨s0, s1, s2, s3, s4⟩, -⟩ := bx5 hst
  have HBF := Lib.hid (bx5_below (.int .i64 s.k) (.slice ao n c) (.slice bo L d) (.int .i64 s.n) (.int .i64 s.sl) (show w.heap.size ≤ w.heap.size + 1 by omega) HBA.out)
  clear hst hb2
  go_wp2_with fail
  refine bodyPost_ret (v := .tuple #[.agg #[.int .i64 s.k, .slice ao n c, .slice bo L d, .int .i64 s.n, .int .i64 s.sl], .int .i64 0]) (by simp [results, Try.results152, go_sem, s0, s1, s2, s3, s4]) rfl ?_
  exact ⟨HBF.out, Or.inr ⟨HE.out, rfl⟩⟩
theorem Lvs.mono {gt : Option Nat} {B B' : Nat} {w : World} {u : Value} {lv : List (List Int)} (h : Lvs gt B w u lv) (hB : B' ≤ B) : Lvs gt B' w u lv := by
  obtain ⟨P, h1, h2, h3, h4⟩ := h
  refine ⟨P, h1, h2, fun p hp => ?_, own_mono h4 hB⟩
  obtain ⟨t, e1, e2, e3⟩ := h3 p hp
  exact ⟨t, e1, own_mono e2 hB, e3⟩
theorem OwnRk.mono {B B' : Nat} {w : World} {s : Rk} {t u : Value} (h : OwnRk B w s t u) (hB : B' ≤ B) : OwnRk B' w s t u := ⟨own_mono h.1 hB, h.2.mono hB⟩
theorem addG_kn (s : Rk) (v : Int) : (addG s v).k = s.k ∧ (addG s v).n = s.n + 1 := by
  unfold addG
  split
  · exact ⟨rfl, rfl⟩
  · exact ⟨rfl, rfl⟩
open Classical in
noncomputable def addR (s : Rk) (v : Int) : Rk × Int := if rankF s = 0 then boundG (addG s v) else (rk0, rankF s)
theorem rk_shape {w : World} {v : Value} {s : Rk} (h : RkV w v s) : ∃ ao n c bo L d, v = .agg #[.int .i64 s.k, .slice ao n c, .slice bo L d, .int .i64 s.n, .int .i64 s.sl] ∧ RkV w (.agg #[.int .i64 s.k, .slice ao n c, .slice bo L d, .int .i64 s.n, .int .i64 s.sl]) s := by
  have h' := h
  obtain ⟨t, u, rfl, ht, hu⟩ := h
  obtain ⟨ao, c, rfl, -, -, -⟩ := ht.shape
  obtain ⟨bo, d, rfl, -, -⟩ := hu.shape
  exact ⟨_, _, _, _, _, _, rfl, h'⟩
set_option maxHeartbeats 8000000 in
set_option maxRecDepth 100000 in
theorem Add_any (v0 : Value) (s : Rk) (v : Int) (w : World) (hv : RkV w v0 s) : Calls Try.prog 95 #[v0, .int .i64 v] w (RkPost w (addR s v)) := by
  obtain ⟨ao, n, c, bo, L, d, rfl, hv⟩ := rk_shape hv
  have HV := Lib.hid hv
  obtain ⟨E, hE⟩ : ∃ E, rankF s = E := ⟨_, rfl⟩
  have HE := Lib.hid hE
  obtain ⟨R, hR⟩ : ∃ R, addR s v = R := ⟨_, rfl⟩
  have HR := Lib.hid hR
  rw [hR]
  obtain ⟨wA, hwA⟩ : ∃ wA, wA = (w.alloc (Obj.cells #[.int .i64 s.k, .slice ao n c, .slice bo L d, .int .i64 s.n, .int .i64 s.sl] 141)).alloc (Obj.cells #[.int .i64 0, .slice none 0 0, .slice none 0 0, .int .i64 0, .int .i64 0] 141) := ⟨_, rfl⟩
  have hb1 : wA.heap[w.heap.size]? = some (.cells #[.int .i64 s.k, .slice ao n c, .slice bo L d, .int .i64 s.n, .int .i64 s.sl] 141 (0, 0)) := by rw [hwA]; exact two_first w _ _
  have hb2 : wA.heap[w.heap.size + 1]? = some (.cells #[.int .i64 0, .slice none 0 0, .slice none 0 0, .int .i64 0, .int .i64 0] 141 (0, 0)) := by rw [hwA]; exact two_second w _ _
  have hbA : Below w.heap.size w wA := by rw [hwA]; exact ((Below.refl _ _).alloc (Nat.le_refl _) _).alloc (by simp) _
  have HW := Lib.hid hwA
  have HBA := Lib.hid hbA
  have HB1 := Lib.hid hb1
  have HB2 := Lib.hid hb2
  clear hv hE hR hwA hbA hb1 hb2
  go_enter Try.func95, Try.ntmps95
  go_upto_region 1 with (fail)
  rw [← HW.out]
  obtain ⟨bx, hbx⟩ : ∃ bx, w.heap.size = bx := ⟨_, rfl⟩
  have HBX := Lib.hid hbx
  have y1 := HB1.out
  have y2 := HB2.out
  rw [hbx] at y1 y2 ⊢
  have hlow : w.heap.size ≤ bx := Nat.le_of_eq hbx
  clear hbx
  have hl1 : bx < wA.heap.size := (Array.getElem?_eq_some_iff.1 y1).1
  have hl2 : bx + 1 < wA.heap.size := (Array.getElem?_eq_some_iff.1 y2).1
  obtain ⟨⟨d0, d1, d2, d3, d4⟩, -⟩ := bx5 y1
  go_wp2_with fail
  refine (rkcheck_any _ s _ (HV.out.below HBA.out)).mono ?_
  rw [HE.out]
  rintro e w1 ⟨rfl, hbq⟩
  have Y1 := (hbq.block _ hl1).trans y1
  have Y2 := (hbq.block _ hl2).trans y2
  have HBW := Lib.hid (HBA.out.trans (hbq.mono HBA.out.size))
  clear d0 d1 d2 d3 d4 hbq y1 y2 hl1 hl2
  have hl1 : bx < w1.heap.size := (Array.getElem?_eq_some_iff.1 Y1).1
  have hl2 : bx + 1 < w1.heap.size := (Array.getElem?_eq_some_iff.1 Y2).1
  obtain ⟨⟨d0, d1, d2, d3, d4⟩, -⟩ := bx5 Y1
  by_cases hz : E = 0
  case neg =>
    have t1 : (E != 0) = true := by rw [bne_iff_ne]; exact hz
    have HRR : Hid (R = (rk0, E)) := Lib.hid (by rw [← HR.out]; unfold addR; rw [HE.out, if_neg hz])
    obtain ⟨-, ⟨f0, f1, f2, f3, f4⟩⟩ := bx5 Y2
    clear hz
    go_upto_region 3 with (fail)
    have hst := bx5_store (.int .i64 0) (.slice none 0 0) (.slice none 0 0) (.int .i64 0) (.int .i64 0) Y2
    obtain ⟨⟨s0, s1, s2, s3, s4⟩, -⟩ := bx5 hst
    have HBF := Lib.hid (bx5_below (.int .i64 0) (.slice none 0 0) (.slice none 0 0) (.int .i64 0) (.int .i64 0) (show w.heap.size ≤ bx + 1 by omega) HBW.out)
    clear hst Y1
    obtain ⟨⟨q0, q1, q2, q3, q4⟩, -⟩ := bx5 Y2
    clear Y2
    go_wp2_with fail
    refine bodyPost_ret (v := .tuple #[.agg #[.int .i64 0, .slice none 0 0, .slice none 0 0, .int .i64 0, .int .i64 0], .int .i64 E]) (by simp [results, Try.results95, go_sem, s0, s1, s2, s3, s4]) rfl ?_
    show RkPost _ _ _ _
    rw [HRR.out]
    exact ⟨_, rfl, rkV_zero _, HBF.out⟩
  subst hz
  have t1 : ((0 : Int) != 0) = false := rfl
  have HRR : Hid (R = boundG (addG s v)) := Lib.hid (by rw [← HR.out]; unfold addR; rw [HE.out, if_pos rfl])
  have hwl := rank_ok HE.out
  have hwp := well_parts hwl
  have hhd := headR_ok.1 (okTo_head hwl.1)
  have hsum := sumTo_bd (s := s) (by omega) (by omega) (by omega) s.lv.length (by omega)
  rw [hwl.2] at hsum
  have HWL := Lib.hid hwl
  have HSRT := Lib.hid hwp.2.2.2.2.1
  have HLEN : Hid (∀ a ∈ s.lv, a.length ≤ 64) := Lib.hid (fun a ha => by have := (hwp.2.2.2.2.2 a ha).1; omega)
  have hn0 : 0 ≤ s.n ∧ s.n ≤ 4611686018427387904 := by omega
  have hs0 : 0 ≤ s.sl ∧ s.sl ≤ 4611686018427387904 := by omega
  have ht63 : s.tl.length ≤ 63 := by omega
  have hL30 : s.lv.length ≤ 30 := by omega
  have HY1 := Lib.hid Y1
  have HY2 := Lib.hid Y2
  clear hwl hwp hhd hsum Y1 Y2
  go_wp2_with fail
  refine (own_any _ s _ (HV.out.below HBW.out) HWL.out).mono ?_
  rintro e w2 ⟨t2, u2, rfl, ho2, hb2⟩
  have Y1 := (hb2.block _ hl1).trans HY1.out
  have Y2 := (hb2.block _ hl2).trans HY2.out
  obtain ⟨to2, tc2, rfl, -, -, -⟩ := own_shape ho2.1
  obtain ⟨P, i1, i2, i3, i4⟩ := ho2.2
  obtain ⟨uo2, uc2, rfl, -, -, -⟩ := own_shape i4
  obtain ⟨nn, hnn⟩ : ∃ x, s.tl.length = x := ⟨_, rfl⟩
  obtain ⟨LL, hLL⟩ : ∃ x, s.lv.length = x := ⟨_, rfl⟩
  have ho2' := (ho2.mono HBW.out.size).stores5 (x0 := .int .i64 s.k) (x1 := .slice to2 s.tl.length tc2) (x2 := .slice uo2 s.lv.length uc2) (x3 := .int .i64 s.n) (x4 := .int .i64 s.sl) Y1
  have hst := bx5_store (.int .i64 s.k) (.slice to2 s.tl.length tc2) (.slice uo2 s.lv.length uc2) (.int .i64 s.n) (.int .i64 s.sl) Y1
  have hst2 : _ := block_stores_other (b := bx) (b' := bx + 1) (by omega) [.int .i64 s.k, .slice to2 s.tl.length tc2, .slice uo2 s.lv.length uc2, .int .i64 s.n, .int .i64 s.sl] w2 0 Y2
  have hbw := bx5_below (.int .i64 s.k) (.slice to2 s.tl.length tc2) (.slice uo2 s.lv.length uc2) (.int .i64 s.n) (.int .i64 s.sl) hlow (HBW.out.trans (hb2.mono HBW.out.size))
  have HO2 := Lib.hid ho2'
  have HST := Lib.hid hst
  have HST2 := Lib.hid hst2
  have HBW2 := Lib.hid hbw
  rw [hnn] at HO2 HST HST2 HBW2 ht63 ⊢
  rw [hLL] at HO2 HST HST2 HBW2 hL30 ⊢
  have HNN := Lib.hid hnn
  have HLL := Lib.hid hLL
  clear d0 d1 d2 d3 d4 hb2 ho2 ho2' hst hst2 hbw i1 i2 i3 i4 Y2 hnn hLL
  obtain ⟨⟨d0, d1, d2, d3, d4⟩, ⟨f0, f1, f2, f3, f4⟩⟩ := bx5 Y1
  clear Y1
  go_upto_region 5 with (fail)
  obtain ⟨w3, hw3⟩ : ∃ x, x = ((((w2.setCell ⟨bx, 0, none⟩ (.int .i64 s.k)).setCell ⟨bx, 1, none⟩ (.slice to2 nn tc2)).setCell ⟨bx, 2, none⟩ (.slice uo2 LL uc2)).setCell ⟨bx, 3, none⟩ (.int .i64 s.n)).setCell ⟨bx, 4, none⟩ (.int .i64 s.sl) := ⟨_, rfl⟩
  have X1 : w3.heap[bx]? = some (.cells #[.int .i64 s.k, .slice to2 nn tc2, .slice uo2 LL uc2, .int .i64 s.n, .int .i64 s.sl] 141 (0, 0)) := by rw [hw3]; exact HST.out
  have X2 : w3.heap[bx + 1]? = some (.cells #[.int .i64 0, .slice none 0 0, .slice none 0 0, .int .i64 0, .int .i64 0] 141 (0, 0)) := by rw [hw3]; exact HST2.out
  have ho3 : OwnRk w.heap.size w3 s (.slice to2 nn tc2) (.slice uo2 LL uc2) := by rw [hw3]; exact HO2.out
  have hb3 : Below w.heap.size w w3 := by rw [hw3]; exact HBW2.out
  rw [← hw3]
  clear hw3 HO2 HST HST2 HBW2 d0 d1 d2 d3 d4 f0 f1 f2 f3 f4
  have HX1 := Lib.hid X1
  have HX2 := Lib.hid X2
  have HO3 := Lib.hid ho3
  have HB3 := Lib.hid hb3
  clear X1 X2 ho3 hb3
  go_wp2_with fail
  refine (add_any _ w.heap.size bx s v _ _ HX1.out HO3.out ⟨hlow, HB3.out.size⟩ HSRT.out (by rw [HNN.out]; exact ht63) (by rw [HLL.out]; exact hL30) HLEN.out hn0 hs0).mono ?_
  rintro e w4 ⟨rfl, t4, u4, hx4, ho4, hf4, hb4⟩
  obtain ⟨hk4, hn4⟩ := addG_kn s v
  obtain ⟨S, hS⟩ : ∃ S, addG s v = S := ⟨_, rfl⟩
  rw [hS] at hx4 ho4 hk4 hn4
  have hbt : (Value.slice to2 nn tc2).ownBlock ≠ some (bx + 1) := own_block_ne HO3.out.1 HX2.out (by decide)
  have hbu : (Value.slice uo2 LL uc2).ownBlock ≠ some (bx + 1) := by
    obtain ⟨P, i1, i2, i3, i4⟩ := HO3.out.2
    exact own_block_ne i4 HX2.out (by decide)
  have hx5 := (hf4.keep (bx + 1) (Array.getElem?_eq_some_iff.1 HX2.out).1 (by omega) hbt hbu).trans HX2.out
  have hrk := ho4.rk
  rw [hk4, hn4] at hrk
  obtain ⟨to4, tc4, rfl, -, -, -⟩ := own_shape ho4.1
  obtain ⟨P, i1, i2, i3, i4⟩ := ho4.2
  obtain ⟨uo4, uc4, rfl, -, -, -⟩ := own_shape i4
  have HRK := Lib.hid hrk
  have HO4 := Lib.hid ho4
  have HKN := Lib.hid (And.intro hk4 hn4)
  have HB4 := Lib.hid (HB3.out.trans hb4)
  have HX5 := Lib.hid hx5
  have HSS := Lib.hid hS
  obtain ⟨⟨d0, d1, d2, d3, d4⟩, -⟩ := bx5 hx4
  clear hx4 ho4 hf4 hb4 hbt hbu hx5 hrk i1 i2 i3 i4 hS
  go_wp2_with fail
  refine (bounded2_any _ S _ HRK.out).mono ?_
  rintro e w5 ⟨hb5, hcase⟩
  have hx6 := (hb5.block _ (Array.getElem?_eq_some_iff.1 HX5.out).1).trans HX5.out
  have HB5 := Lib.hid (HB4.out.trans (hb5.mono HB4.out.size))
  have HO5 := Lib.hid (HO4.out.below hb5)
  clear hb5 d0 d1 d2 d3 d4
  obtain ⟨⟨d0, d1, d2, d3, d4⟩, ⟨f0, f1, f2, f3, f4⟩⟩ := bx5 hx6
  rcases hcase with ⟨hbd, rfl⟩ | ⟨hbd, rfl⟩
  · have HFR : Hid (R = (rk0, 2)) := Lib.hid (by rw [HRR.out, HSS.out, hbd])
    have hst := bx5_store (.int .i64 0) (.slice none 0 0) (.slice none 0 0) (.int .i64 0) (.int .i64 0) hx6
    obtain ⟨⟨s0, s1, s2, s3, s4⟩, -⟩ := bx5 hst
    have HBF := Lib.hid (bx5_below (.int .i64 0) (.slice none 0 0) (.slice none 0 0) (.int .i64 0) (.int .i64 0) (show w.heap.size ≤ bx + 1 by omega) HB5.out)
    clear hst hx6 hbd
    go_wp2_with fail
    refine bodyPost_ret (v := .tuple #[.agg #[.int .i64 0, .slice none 0 0, .slice none 0 0, .int .i64 0, .int .i64 0], .int .i64 2]) (by simp [results, Try.results95, go_sem, s0, s1, s2, s3, s4]) rfl ?_
    show RkPost _ _ _ _
    rw [HFR.out]
    exact ⟨_, rfl, rkV_zero _, HBF.out⟩
  · have HFR : Hid (R = (S, 0)) := Lib.hid (by rw [HRR.out, HSS.out, hbd])
    have hst := bx5_store (.int .i64 s.k) (.slice to4 S.tl.length tc4) (.slice uo4 S.lv.length uc4) (.int .i64 (s.n + 1)) (.int .i64 S.sl) hx6
    obtain ⟨⟨s0, s1, s2, s3, s4⟩, -⟩ := bx5 hst
    have HBF := Lib.hid (bx5_below (.int .i64 s.k) (.slice to4 S.tl.length tc4) (.slice uo4 S.lv.length uc4) (.int .i64 (s.n + 1)) (.int .i64 S.sl) (show w.heap.size ≤ bx + 1 by omega) HB5.out)
    have hfin := (HO5.out.stores5 (x0 := .int .i64 s.k) (x1 := .slice to4 S.tl.length tc4) (x2 := .slice uo4 S.lv.length uc4) (x3 := .int .i64 (s.n + 1)) (x4 := .int .i64 S.sl) hx6).rk
    rw [HKN.out.1, HKN.out.2] at hfin
    have HFIN := Lib.hid hfin
    clear hst hx6 hbd hfin
    go_wp2_with fail
    refine bodyPost_ret (v := .tuple #[.agg #[.int .i64 s.k, .slice to4 S.tl.length tc4, .slice uo4 S.lv.length uc4, .int .i64 (s.n + 1), .int .i64 S.sl], .int .i64 0]) (by simp [results, Try.results95, go_sem, s0, s1, s2, s3, s4]) rfl ?_
    show RkPost _ _ _ _
    rw [HFR.out]
    exact ⟨_, rfl, HFIN.out, HBF.out⟩
end Go.Proofs.Ytcljeedmiobepaa.Rk
