/-
  Ranks: the walk of the reference's Ranked.
-/
import Derived.Test.YtcljeedmiobepaaRk15
namespace Go.Proofs.Ytcljeedmiobepaa.Rk
open Go.RowKit Go.Gh
set_option linter.unusedVariables false
/-- What Ranked asks of a rank. -/
structure RPre (B : Nat) (w : World) (v : Value) (s : Rk) : Prop where
  rk : RkX B w v s
  low : B ≤ w.heap.size
  cnt : s.lv.length ≤ 30
  lvs : ∀ a ∈ s.lv, a.length ≤ 64 ∧ a.Pairwise (· ≤ ·)
  len : s.tl.length ≤ 63
  n0 : 0 ≤ s.n ∧ s.n ≤ 4611686018427387904
  sl0 : 0 ≤ s.sl ∧ s.sl ≤ 4611686018427387904
def RPost (B : Nat) (w : World) (s : Rk) (e : Ending) (w' : World) : Prop := ∃ v', e = .returned v' ∧ RkX B w' v' s ∧ Below w.heap.size w w'
theorem RkX.tail {B : Nat} {w : World} {t t' u : Value} {s : Rk} {tl : List Int} {n : Int} (h : RkX B w (.agg #[.int .i64 s.k, t, u, .int .i64 s.n, .int .i64 s.sl]) s) (ht : NsX B w t' tl) : RkX B w (.agg #[.int .i64 s.k, t', u, .int .i64 n, .int .i64 s.sl]) ⟨s.k, tl, s.lv, n, s.sl⟩ := by
  obtain ⟨t1, u1, P, e, h2, h3, h4, h5, h6⟩ := h
  simp only [Value.agg.injEq, Array.mk.injEq, List.cons.injEq, and_true, true_and] at e
  obtain ⟨rfl, rfl⟩ := e
  exact ⟨t', u, P, rfl, ht, h3, h4, h5, h6⟩
theorem RkX.nsx {B : Nat} {w : World} {t u : Value} {s : Rk} (h : RkX B w (.agg #[.int .i64 s.k, t, u, .int .i64 s.n, .int .i64 s.sl]) s) : NsX B w t s.tl := by
  obtain ⟨t1, u1, P, e, h2, h3, h4, h5, h6⟩ := h
  simp only [Value.agg.injEq, Array.mk.injEq, List.cons.injEq, and_true, true_and] at e
  obtain ⟨rfl, rfl⟩ := e
  exact h2
set_option maxHeartbeats 8000000 in
set_option maxRecDepth 100000 in
theorem Ranked_any (B : Nat) (v0 : Value) (s : Rk) (v : Int) (w : World) (h : RPre B w v0 s) : Calls Try.prog 99 #[v0, .int .i64 v] w (RPost B w (addG s v)) := by
  obtain ⟨hx, hB, hL30, hlvs, h63, hn0, hs0⟩ := h
  obtain ⟨ao, n, c, bo, L, d, rfl, hx⟩ := rkX_shape hx
  have HLVS := Lib.hid hlvs
  have HL30 := Lib.hid hL30
  have H63 := Lib.hid h63
  obtain ⟨R, hR⟩ : ∃ R, addG s v = R := ⟨_, rfl⟩
  have HR := Lib.hid hR
  rw [hR]
  obtain ⟨wA, hwA⟩ : ∃ wA, wA = (w.alloc (Obj.cells #[.int .i64 s.k, .slice ao n c, .slice bo L d, .int .i64 s.n, .int .i64 s.sl] 141)).alloc (Obj.cells #[.int .i64 0, .slice none 0 0, .slice none 0 0, .int .i64 0, .int .i64 0] 141) := ⟨_, rfl⟩
  have hb1 : wA.heap[w.heap.size]? = some (.cells #[.int .i64 s.k, .slice ao n c, .slice bo L d, .int .i64 s.n, .int .i64 s.sl] 141 (0, 0)) := by rw [hwA]; exact two_first w _ _
  have hb2 : wA.heap[w.heap.size + 1]? = some (.cells #[.int .i64 0, .slice none 0 0, .slice none 0 0, .int .i64 0, .int .i64 0] 141 (0, 0)) := by rw [hwA]; exact two_second w _ _
  have hbA : Below w.heap.size w wA := by rw [hwA]; exact ((Below.refl _ _).alloc (Nat.le_refl _) _).alloc (by simp) _
  have HW := Lib.hid hwA
  have HX := Lib.hid (hx.below hbA)
  have HBA := Lib.hid hbA
  have HB1 := Lib.hid hb1
  have HB2 := Lib.hid hb2
  clear hR hwA hbA hb1 hb2 hx hlvs hL30 h63
  go_enter Try.func99, Try.ntmps99
  go_upto_region 1 with (fail)
  rw [← HW.out]
  obtain ⟨bx, hbx⟩ : ∃ bx, w.heap.size = bx := ⟨_, rfl⟩
  have HBX := Lib.hid hbx
  have y1 := HB1.out
  have y2 := HB2.out
  have hbA := HBA.out
  rw [hbx] at y1 y2 hB hbA ⊢
  clear hbx
  have hlow : bx ≤ wA.heap.size := by have := (Array.getElem?_eq_some_iff.1 y1).1; omega
  have HY1 := Lib.hid y1
  have HY2 := Lib.hid y2
  have HBB := Lib.hid hbA
  obtain ⟨⟨d0, d1, d2, d3, d4⟩, -⟩ := bx5 y1
  clear y1 y2 hbA
  go_wp2_with fail
  refine (inserted_any _ s.tl v _ HX.out.nsx.out (by have := H63.out; omega)).mono ?_
  rintro e w2 ⟨v2, rfl, hown2, hb2⟩
  obtain ⟨to2, tc2, rfl, -, -, -⟩ := own_shape hown2
  obtain ⟨q, hq⟩ : ∃ q, (insB s.tl v).length = q := ⟨_, rfl⟩
  have HQ := Lib.hid hq
  have z1 := (hb2.block _ (Array.getElem?_eq_some_iff.1 HY1.out).1).trans HY1.out
  have z2 := (hb2.block _ (Array.getElem?_eq_some_iff.1 HY2.out).1).trans HY2.out
  have hns2 : NsX B w2 (.slice to2 (insB s.tl v).length tc2) (insB s.tl v) := nsX_own hown2 rfl
  have hrk2 : RkX B w2 (.agg #[.int .i64 s.k, .slice to2 (insB s.tl v).length tc2, .slice bo L d, .int .i64 (s.n + 1), .int .i64 s.sl]) ⟨s.k, insB s.tl v, s.lv, s.n + 1, s.sl⟩ := (HX.out.below hb2).tail hns2
  rw [hq] at hrk2 hns2 ⊢
  have HB3 := Lib.hid (HBB.out.trans (hb2.mono hlow))
  have HRK2 := Lib.hid hrk2
  have HNS2 := Lib.hid hns2
  have hlow2 : bx ≤ w2.heap.size := Nat.le_trans hlow hb2.size
  have HZ1 := Lib.hid z1
  have HZ2 := Lib.hid z2
  have hq64 : q ≤ 64 := by rw [← hq, insB_len]; have := H63.out; omega
  clear d0 d1 d2 d3 d4 hown2 hb2 hrk2 hns2 hq z2 hlow
  obtain ⟨⟨d0, d1, d2, d3, d4⟩, ⟨f0, f1, f2, f3, f4⟩⟩ := bx5 z1
  clear z1
  have hst := row_setCell 1 (.slice to2 q tc2) HZ1.out
  have hst2 := row_setCell_other (i := 1) (b' := bx) (.slice to2 q tc2) HZ2.out (by omega)
  have hag3 := fun K (hK : ¬ K 141) => Ag.set (K := K) (i := 1) (x := .slice to2 q tc2) hB HZ1.out hK
  have HB4 := Lib.hid (HB3.out.setCell (p := ⟨bx, 1, none⟩) (Nat.le_refl _) (.slice to2 q tc2))
  have HRK3 := Lib.hid (HRK2.out.go (hag3 _ KL_rk))
  have HNS3 := Lib.hid (HNS2.out.go (hag3 _ KN_rk))
  have HST := Lib.hid hst
  have HST2 := Lib.hid hst2
  clear hst hst2 hag3
  go_upto_region 2 with (fail)
  obtain ⟨w3, hw3⟩ : ∃ x, x = w2.setCell ⟨bx, 1, none⟩ (.slice to2 q tc2) := ⟨_, rfl⟩
  rw [← hw3] at HST HST2 HB4 HRK3 HNS3 ⊢
  have hlow3 : bx ≤ w3.heap.size := by rw [hw3]; simpa using hlow2
  clear hw3 HRK2 HNS2 HB3 HZ1 HZ2 d0 d1 d2 d3 d4 f0 f1 f2 f3 f4 hlow2
  have X1 : w3.heap[bx]? = some (.cells #[.int .i64 s.k, .slice to2 q tc2, .slice bo L d, .int .i64 s.n, .int .i64 s.sl] 141 (0, 0)) := HST.out
  obtain ⟨⟨d0, d1, d2, d3, d4⟩, ⟨f0, f1, f2, f3, f4⟩⟩ := bx5 X1
  have hag3 := fun K (hK : ¬ K 141) => Ag.set (K := K) (i := 3) (x := .int .i64 (s.n + 1)) hB X1 hK
  have HB5 := Lib.hid (HB4.out.setCell (p := ⟨bx, 3, none⟩) (Nat.le_refl _) (.int .i64 (s.n + 1)))
  have HRK4 := Lib.hid (HRK3.out.go (hag3 _ KL_rk))
  have HNS4 := Lib.hid (HNS3.out.go (hag3 _ KN_rk))
  have HST3 := Lib.hid (row_setCell 3 (.int .i64 (s.n + 1)) X1)
  have HST4 := Lib.hid (row_setCell_other (i := 3) (b' := bx) (.int .i64 (s.n + 1)) HST2.out (by omega))
  clear X1 hag3
  go_upto_region 3 with (fail)
  obtain ⟨w4, hw4⟩ : ∃ x, x = w3.setCell ⟨bx, 3, none⟩ (.int .i64 (s.n + 1)) := ⟨_, rfl⟩
  rw [← hw4] at HST3 HST4 HB5 HRK4 HNS4 ⊢
  have hlow4 : bx ≤ w4.heap.size := by rw [hw4]; simpa using hlow3
  clear hw4 HRK3 HNS3 HB4 HST HST2 d0 d1 d2 d3 d4 f0 f1 f2 f3 f4 hlow3
  have X1 : w4.heap[bx]? = some (.cells #[.int .i64 s.k, .slice to2 q tc2, .slice bo L d, .int .i64 (s.n + 1), .int .i64 s.sl] 141 (0, 0)) := HST3.out
  have X2 : w4.heap[bx + 1]? = some (.cells #[.int .i64 0, .slice none 0 0, .slice none 0 0, .int .i64 0, .int .i64 0] 141 (0, 0)) := HST4.out
  have HX1 := Lib.hid X1
  have HX2 := Lib.hid X2
  obtain ⟨⟨d0, d1, d2, d3, d4⟩, ⟨f0, f1, f2, f3, f4⟩⟩ := bx5 X1
  clear X1 X2
  by_cases hk : (q : Int) = s.k
  · have hkk : ((q : Int) == s.k) = true := by rw [beq_iff_eq]; exact hk
    have HRE : Hid (R = ⟨s.k, [], (carryG s.lv s.sl (insB s.tl v) 0).1, s.n + 1, (carryG s.lv s.sl (insB s.tl v) 0).2⟩) := Lib.hid (by rw [← HR.out]; unfold addG; rw [if_pos (by rw [HQ.out]; exact hk)])
    have HK := Lib.hid hk
    clear hk
    have hag3 := fun K (hK : ¬ K 141) => Ag.set (K := K) (i := 1) (x := .slice none 0 0) hB HX1.out hK
    have HB6 := Lib.hid (HB5.out.setCell (p := ⟨bx, 1, none⟩) (Nat.le_refl _) (.slice none 0 0))
    have HRK5 := Lib.hid (HRK4.out.go (hag3 _ KL_rk))
    have HNS5 := Lib.hid (HNS4.out.go (hag3 _ KN_rk))
    have HST3 := Lib.hid (row_setCell 1 (.slice none 0 0) HX1.out)
    have HST4 := Lib.hid (row_setCell_other (i := 1) (b' := bx) (.slice none 0 0) HX2.out (by omega))
    clear hag3
    go_upto_region 6 with (fail)
    obtain ⟨w5, hw5⟩ : ∃ x, x = w4.setCell ⟨bx, 1, none⟩ (.slice none 0 0) := ⟨_, rfl⟩
    rw [← hw5] at HST3 HST4 HB6 HRK5 HNS5 ⊢
    have hlow5 : bx ≤ w5.heap.size := by rw [hw5]; simpa using hlow4
    clear hw5 HRK4 HNS4 HB5 d0 d1 d2 d3 d4 f0 f1 f2 f3 f4 hlow4 HX1 HX2
    have X1 : w5.heap[bx]? = some (.cells #[.int .i64 s.k, .slice none 0 0, .slice bo L d, .int .i64 (s.n + 1), .int .i64 s.sl] 141 (0, 0)) := HST3.out
    have X2 : w5.heap[bx + 1]? = some (.cells #[.int .i64 0, .slice none 0 0, .slice none 0 0, .int .i64 0, .int .i64 0] 141 (0, 0)) := HST4.out
    have HX2 := Lib.hid X2
    obtain ⟨⟨d0, d1, d2, d3, d4⟩, -⟩ := bx5 X1
    have HRK6 : Hid (RkX B w5 (.agg #[.int .i64 s.k, .slice none 0 0, .slice bo L d, .int .i64 (s.n + 1), .int .i64 s.sl]) ⟨s.k, [], s.lv, s.n + 1, s.sl⟩) := Lib.hid (RkX.tail (s := ⟨s.k, insB s.tl v, s.lv, s.n + 1, s.sl⟩) HRK5.out nsX_nil)
    clear X1 X2
    go_wp2_with fail
    refine (Carried_any s.lv.length B 0 4611686018427387904 _ _ ⟨s.k, [], s.lv, s.n + 1, s.sl⟩ (insB s.tl v) _ (Nat.sub_le _ _) ⟨HRK6.out, HNS5.out, Nat.le_trans hB hlow5, HL30.out, by omega, HLVS.out, by rw [HQ.out]; exact hq64, hs0.1, by show s.sl ≤ _; omega⟩ (by omega)).mono ?_
    rintro e w13 ⟨v13, rfl, hrk13, hb13⟩
    have hrk14 : RkX B w13 v13 R := by rw [HRE.out]; exact hrk13
    have hRk : R.k = s.k ∧ R.n = s.n + 1 := by rw [HRE.out]; exact ⟨rfl, rfl⟩
    obtain ⟨o1, n1, c1, o2, n2, c2, rfl, hrk15⟩ := rkX_shape hrk14
    rw [hRk.1, hRk.2] at hrk15 ⊢
    have B2 := (hb13.block _ (Array.getElem?_eq_some_iff.1 HX2.out).1).trans HX2.out
    have hb14 := HB6.out.trans (hb13.mono hlow5)
    have HRK := Lib.hid (hrk15.go (Ag.stores5 (x0 := .int .i64 s.k) (x1 := .slice o1 n1 c1) (x2 := .slice o2 n2 c2) (x3 := .int .i64 (s.n + 1)) (x4 := .int .i64 R.sl) (show B ≤ bx + 1 by omega) B2 KL_rk))
    obtain ⟨⟨q0, q1, q2, q3, q4⟩, ⟨f0, f1, f2, f3, f4⟩⟩ := bx5 B2
    have hst := bx5_store (.int .i64 s.k) (.slice o1 n1 c1) (.slice o2 n2 c2) (.int .i64 (s.n + 1)) (.int .i64 R.sl) B2
    obtain ⟨⟨s0, s1, s2, s3, s4⟩, -⟩ := bx5 hst
    have HBF := Lib.hid (bx5_below (.int .i64 s.k) (.slice o1 n1 c1) (.slice o2 n2 c2) (.int .i64 (s.n + 1)) (.int .i64 R.sl) (show bx ≤ bx + 1 by omega) hb14)
    clear hst B2 hb13 hb14 hrk13 hrk14 hrk15 hRk d0 d1 d2 d3 d4
    go_wp2_with fail
    refine bodyPost_ret (v := .agg #[.int .i64 s.k, .slice o1 n1 c1, .slice o2 n2 c2, .int .i64 (s.n + 1), .int .i64 R.sl]) (by simp [results, Try.results99, go_sem, s0, s1, s2, s3, s4]) rfl ?_
    show RPost _ _ _ _ _
    exact ⟨_, rfl, HRK.out, by rw [HBX.out]; exact HBF.out⟩
  · have hkk : ((q : Int) == s.k) = false := by rw [beq_eq_false_iff_ne]; exact hk
    have HRE : Hid (R = ⟨s.k, insB s.tl v, s.lv, s.n + 1, s.sl⟩) := Lib.hid (by rw [← HR.out]; unfold addG; rw [if_neg (by rw [HQ.out]; exact hk)])
    clear hk
    have HRK := Lib.hid (HRK4.out.go (Ag.stores5 (x0 := .int .i64 s.k) (x1 := .slice to2 q tc2) (x2 := .slice bo L d) (x3 := .int .i64 (s.n + 1)) (x4 := .int .i64 s.sl) (show B ≤ bx + 1 by omega) HX2.out KL_rk))
    have HBF := Lib.hid (bx5_below (.int .i64 s.k) (.slice to2 q tc2) (.slice bo L d) (.int .i64 (s.n + 1)) (.int .i64 s.sl) (show bx ≤ bx + 1 by omega) HB5.out)
    go_upto_region 7 with (fail)
    have hst := bx5_store (.int .i64 s.k) (.slice to2 q tc2) (.slice bo L d) (.int .i64 (s.n + 1)) (.int .i64 s.sl) HX2.out
    obtain ⟨⟨s0, s1, s2, s3, s4⟩, -⟩ := bx5 hst
    obtain ⟨⟨q0, q1, q2, q3, q4⟩, ⟨e0, e1, e2, e3, e4⟩⟩ := bx5 HX2.out
    clear hst
    go_wp2_with fail
    refine bodyPost_ret (v := .agg #[.int .i64 s.k, .slice to2 q tc2, .slice bo L d, .int .i64 (s.n + 1), .int .i64 s.sl]) (by simp [results, Try.results99, go_sem, s0, s1, s2, s3, s4]) rfl ?_
    show RPost _ _ _ _ _
    rw [HRE.out]
    exact ⟨_, rfl, HRK.out, by rw [HBX.out]; exact HBF.out⟩
end Go.Proofs.Ytcljeedmiobepaa.Rk
