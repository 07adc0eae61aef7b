/-
  Ranks: the walks of Empty, bounded, RankBounds, SameRank.
-/
import Derived.Test.YtcljeedmiobepaaRk7
namespace Go.Proofs.Ytcljeedmiobepaa.Rk
open Go.RowKit Go.Gh
set_option linter.unusedVariables false
section
variable {w : World} {b : Nat} {T : TypeId} {a0 a1 a2 a3 a4 : Value}
theorem bx5_store (x0 x1 x2 x3 x4 : Value) (h : w.heap[b]? = some (.cells #[a0, a1, a2, a3, a4] T (0, 0))) : (((((w.setCell ⟨b, 0, none⟩ x0).setCell ⟨b, 1, none⟩ x1).setCell ⟨b, 2, none⟩ x2).setCell ⟨b, 3, none⟩ x3).setCell ⟨b, 4, none⟩ x4).heap[b]? = some (.cells #[x0, x1, x2, x3, x4] T (0, 0)) :=
  box_over (cs := [a0, a1, a2, a3, a4]) (us := [x0, x1, x2, x3, x4]) h rfl
theorem bx5_below {B : Nat} {w0 : World} (x0 x1 x2 x3 x4 : Value) (hB : B ≤ b) (h : Below B w0 w) : Below B w0 (((((w.setCell ⟨b, 0, none⟩ x0).setCell ⟨b, 1, none⟩ x1).setCell ⟨b, 2, none⟩ x2).setCell ⟨b, 3, none⟩ x3).setCell ⟨b, 4, none⟩ x4) :=
  below_stores hB [x0, x1, x2, x3, x4] w 0 h
end
theorem ns_nil {w : World} : Ns w (.slice none 0 0) [] := ⟨none, 0, rfl, Nat.le_refl _, Nat.zero_le _, fun _ => rfl, by simp, fun h => absurd h (Nat.lt_irrefl _)⟩
theorem rkV_zero (w : World) : RkV w (.agg #[.int .i64 0, .slice none 0 0, .slice none 0 0, .int .i64 0, .int .i64 0]) rk0 := ⟨_, _, rfl, ns_nil, Sp.nil⟩
theorem rkV_k (w : World) (k : Int) : RkV w (.agg #[.int .i64 k, .slice none 0 0, .slice none 0 0, .int .i64 0, .int .i64 0]) ⟨k, [], [], 0, 0⟩ := ⟨_, _, rfl, ns_nil, Sp.nil⟩
/-- A rank and an error. -/
def RkPost (w : World) (r : Rk × Int) (e : Ending) (w' : World) : Prop := ∃ v', e = .returned (.tuple #[v', .int .i64 r.2]) ∧ RkV w' v' r.1 ∧ Below w.heap.size w w'
def emptyG (k : Int) : Rk × Int := if k < 2 ∨ 64 < k then (rk0, 1) else (⟨k, [], [], 0, 0⟩, 0)
set_option maxHeartbeats 4000000 in
set_option maxRecDepth 100000 in
theorem Empty_any (k : Int) (w : World) : Calls Try.prog 94 #[.int .i64 k] w (RkPost w (emptyG k)) := by
  obtain ⟨wA, hwA⟩ : ∃ wA, wA = w.alloc (Obj.cells #[.int .i64 0, .slice none 0 0, .slice none 0 0, .int .i64 0, .int .i64 0] 141) := ⟨_, rfl⟩
  have hb1 : Below w.heap.size w wA := by rw [hwA]; exact (Below.refl _ _).alloc (Nat.le_refl _) _
  have hbox : wA.heap[w.heap.size]? = some (.cells #[.int .i64 0, .slice none 0 0, .slice none 0 0, .int .i64 0, .int .i64 0] 141 (0, 0)) := by rw [hwA]; exact heap_alloc_new w _
  obtain ⟨⟨q0, q1, q2, q3, q4⟩, ⟨f0, f1, f2, f3, f4⟩⟩ := bx5 hbox
  by_cases h1 : k < 2 ∨ 64 < k
  · have HE : Hid (emptyG k = (rk0, 1)) := Lib.hid (if_pos h1)
    have hst := bx5_store (.int .i64 0) (.slice none 0 0) (.slice none 0 0) (.int .i64 0) (.int .i64 0) hbox
    obtain ⟨⟨s0, s1, s2, s3, s4⟩, -⟩ := bx5 hst
    have HB := Lib.hid (bx5_below (.int .i64 0) (.slice none 0 0) (.slice none 0 0) (.int .i64 0) (.int .i64 0) (Nat.le_refl _) hb1)
    have HW := Lib.hid hwA
    clear hbox hst hb1 hwA
    go_enter Try.func94, Try.ntmps94
    go_upto_region 1 with (fail)
    rw [← HW.out]
    rcases h1 with h1 | h1
    · go_wp2_with fail
      refine bodyPost_ret (v := .tuple #[.agg #[.int .i64 0, .slice none 0 0, .slice none 0 0, .int .i64 0, .int .i64 0], .int .i64 1]) (by simp [results, Try.results94, go_sem, s0, s1, s2, s3, s4]) rfl ?_
      show RkPost _ _ _ _
      rw [HE.out]
      exact ⟨_, rfl, rkV_zero _, HB.out⟩
    · have h2 : ¬ k < 2 := by omega
      go_wp2_with fail
      refine bodyPost_ret (v := .tuple #[.agg #[.int .i64 0, .slice none 0 0, .slice none 0 0, .int .i64 0, .int .i64 0], .int .i64 1]) (by simp [results, Try.results94, go_sem, s0, s1, s2, s3, s4]) rfl ?_
      show RkPost _ _ _ _
      rw [HE.out]
      exact ⟨_, rfl, rkV_zero _, HB.out⟩
  · have HE : Hid (emptyG k = (⟨k, [], [], 0, 0⟩, 0)) := Lib.hid (if_neg h1)
    have hst := bx5_store (.int .i64 k) (.slice none 0 0) (.slice none 0 0) (.int .i64 0) (.int .i64 0) hbox
    obtain ⟨⟨s0, s1, s2, s3, s4⟩, -⟩ := bx5 hst
    have HB := Lib.hid (bx5_below (.int .i64 k) (.slice none 0 0) (.slice none 0 0) (.int .i64 0) (.int .i64 0) (Nat.le_refl _) hb1)
    have HW := Lib.hid hwA
    have h2 : ¬ k < 2 := by omega
    have h3 : ¬ 64 < k := by omega
    clear hbox hst hb1 hwA h1
    go_enter Try.func94, Try.ntmps94
    go_upto_region 1 with (fail)
    rw [← HW.out]
    go_wp2_with fail
    refine bodyPost_ret (v := .tuple #[.agg #[.int .i64 k, .slice none 0 0, .slice none 0 0, .int .i64 0, .int .i64 0], .int .i64 0]) (by simp [results, Try.results94, go_sem, s0, s1, s2, s3, s4]) rfl ?_
    show RkPost _ _ _ _
    rw [HE.out]
    exact ⟨_, rfl, rkV_k _ _, HB.out⟩
set_option maxHeartbeats 4000000 in
set_option maxRecDepth 100000 in
theorem bounded_any (v : Value) (s : Rk) (w : World) (hv : RkV w v s) : Calls Try.prog 152 #[v] w (RkPost w (boundG s)) := by
  have HV := Lib.hid hv
  obtain ⟨t, u, rfl, ht, hu⟩ := hv
  obtain ⟨ao, c, rfl, -, -, -⟩ := ht.shape
  obtain ⟨bo, d, rfl, -, -⟩ := hu.shape
  obtain ⟨L, hL⟩ : ∃ n, s.lv.length = n := ⟨_, rfl⟩
  obtain ⟨n, hn⟩ : ∃ n, s.tl.length = n := ⟨_, rfl⟩
  rw [hn, hL] at HV ⊢
  have HL := Lib.hid hL
  obtain ⟨R, hR⟩ : ∃ R, boundG s = R := ⟨_, rfl⟩
  have HR := Lib.hid hR
  rw [hR]
  clear hR
  obtain ⟨wA, hwA⟩ : ∃ wA, wA = (w.alloc (Obj.cells #[.int .i64 s.k, .slice ao n c, .slice bo L d, .int .i64 s.n, .int .i64 s.sl] 141)).alloc (Obj.cells #[.int .i64 0, .slice none 0 0, .slice none 0 0, .int .i64 0, .int .i64 0] 141) := ⟨_, rfl⟩
  have hb1 : wA.heap[w.heap.size]? = some (.cells #[.int .i64 s.k, .slice ao n c, .slice bo L d, .int .i64 s.n, .int .i64 s.sl] 141 (0, 0)) := by rw [hwA]; exact two_first w _ _
  have hb2 : wA.heap[w.heap.size + 1]? = some (.cells #[.int .i64 0, .slice none 0 0, .slice none 0 0, .int .i64 0, .int .i64 0] 141 (0, 0)) := by rw [hwA]; exact two_second w _ _
  have hbA : Below w.heap.size w wA := by rw [hwA]; exact ((Below.refl _ _).alloc (Nat.le_refl _) _).alloc (by simp) _
  have HW := Lib.hid hwA
  have HBA := Lib.hid hbA
  obtain ⟨⟨d0, d1, d2, d3, d4⟩, -⟩ := bx5 hb1
  obtain ⟨⟨q0, q1, q2, q3, q4⟩, ⟨f0, f1, f2, f3, f4⟩⟩ := bx5 hb2
  clear hL hn ht hu hwA hb1 hbA
  go_enter Try.func152, Try.ntmps152
  go_upto_region 1 with (fail)
  rw [← HW.out]
  by_cases h1 : 20 < L
  · have HE : Hid (R = (rk0, 2)) := Lib.hid (by rw [← HR.out]; unfold boundG; rw [if_pos (Or.inl (by rw [HL.out]; exact h1))])
    go_upto_region 2 with (fail)
    have hst := bx5_store (.int .i64 0) (.slice none 0 0) (.slice none 0 0) (.int .i64 0) (.int .i64 0) hb2
    obtain ⟨⟨s0, s1, s2, s3, s4⟩, -⟩ := bx5 hst
    have HBF := Lib.hid (bx5_below (.int .i64 0) (.slice none 0 0) (.slice none 0 0) (.int .i64 0) (.int .i64 0) (show w.heap.size ≤ w.heap.size + 1 by omega) HBA.out)
    clear hst hb2
    go_wp2_with fail
    refine bodyPost_ret (v := .tuple #[.agg #[.int .i64 0, .slice none 0 0, .slice none 0 0, .int .i64 0, .int .i64 0], .int .i64 2]) (by simp [results, Try.results152, go_sem, s0, s1, s2, s3, s4]) rfl ?_
    show RkPost _ _ _ _
    rw [HE.out]
    exact ⟨_, rfl, rkV_zero _, HBF.out⟩
  by_cases h2 : 1152921504606846976 < s.sl
  · have HE : Hid (R = (rk0, 2)) := Lib.hid (by rw [← HR.out]; unfold boundG; rw [if_pos (Or.inr h2)])
    go_upto_region 2 with (fail)
    have hst := bx5_store (.int .i64 0) (.slice none 0 0) (.slice none 0 0) (.int .i64 0) (.int .i64 0) hb2
    obtain ⟨⟨s0, s1, s2, s3, s4⟩, -⟩ := bx5 hst
    have HBF := Lib.hid (bx5_below (.int .i64 0) (.slice none 0 0) (.slice none 0 0) (.int .i64 0) (.int .i64 0) (show w.heap.size ≤ w.heap.size + 1 by omega) HBA.out)
    clear hst hb2
    go_wp2_with fail
    refine bodyPost_ret (v := .tuple #[.agg #[.int .i64 0, .slice none 0 0, .slice none 0 0, .int .i64 0, .int .i64 0], .int .i64 2]) (by simp [results, Try.results152, go_sem, s0, s1, s2, s3, s4]) rfl ?_
    show RkPost _ _ _ _
    rw [HE.out]
    exact ⟨_, rfl, rkV_zero _, HBF.out⟩
  have HE : Hid (R = (s, 0)) := Lib.hid (by rw [← HR.out]; unfold boundG; rw [if_neg (by rw [HL.out]; omega)])
  go_upto_region 3 with (fail)
  have hst := bx5_store (.int .i64 s.k) (.slice ao n c) (.slice bo L d) (.int .i64 s.n) (.int .i64 s.sl) hb2
  obtain ⟨⟨s0, s1, s2, s3, s4⟩, -⟩ := bx5 hst
  have HBF := Lib.hid (bx5_below (.int .i64 s.k) (.slice ao n c) (.slice bo L d) (.int .i64 s.n) (.int .i64 s.sl) (show w.heap.size ≤ w.heap.size + 1 by omega) HBA.out)
  clear hst hb2
  go_wp2_with fail
  refine bodyPost_ret (v := .tuple #[.agg #[.int .i64 s.k, .slice ao n c, .slice bo L d, .int .i64 s.n, .int .i64 s.sl], .int .i64 0]) (by simp [results, Try.results152, go_sem, s0, s1, s2, s3, s4]) rfl ?_
  show RkPost _ _ _ _
  rw [HE.out]
  exact ⟨_, rfl, HV.out.below HBF.out, HBF.out⟩
set_option maxHeartbeats 4000000 in
set_option maxRecDepth 100000 in
theorem rankbounds_any (v : Value) (s : Rk) (w : World) (hv : RkV w v s) : Calls Try.prog 98 #[v] w (RkPost w (boundG s)) := by
  have HV := Lib.hid hv
  obtain ⟨t, u, rfl, ht, hu⟩ := hv
  obtain ⟨ao, c, rfl, -, -, -⟩ := ht.shape
  obtain ⟨bo, d, rfl, -, -⟩ := hu.shape
  obtain ⟨L, hL⟩ : ∃ n, s.lv.length = n := ⟨_, rfl⟩
  obtain ⟨n, hn⟩ : ∃ n, s.tl.length = n := ⟨_, rfl⟩
  rw [hn, hL] at HV ⊢
  have HL := Lib.hid hL
  obtain ⟨R, hR⟩ : ∃ R, boundG s = R := ⟨_, rfl⟩
  have HR := Lib.hid hR
  rw [hR]
  clear hR
  obtain ⟨wA, hwA⟩ : ∃ wA, wA = (w.alloc (Obj.cells #[.int .i64 s.k, .slice ao n c, .slice bo L d, .int .i64 s.n, .int .i64 s.sl] 141)).alloc (Obj.cells #[.int .i64 0, .slice none 0 0, .slice none 0 0, .int .i64 0, .int .i64 0] 141) := ⟨_, rfl⟩
  have hb1 : wA.heap[w.heap.size]? = some (.cells #[.int .i64 s.k, .slice ao n c, .slice bo L d, .int .i64 s.n, .int .i64 s.sl] 141 (0, 0)) := by rw [hwA]; exact two_first w _ _
  have hb2 : wA.heap[w.heap.size + 1]? = some (.cells #[.int .i64 0, .slice none 0 0, .slice none 0 0, .int .i64 0, .int .i64 0] 141 (0, 0)) := by rw [hwA]; exact two_second w _ _
  have hbA : Below w.heap.size w wA := by rw [hwA]; exact ((Below.refl _ _).alloc (Nat.le_refl _) _).alloc (by simp) _
  have HW := Lib.hid hwA
  have HBA := Lib.hid hbA
  obtain ⟨⟨d0, d1, d2, d3, d4⟩, -⟩ := bx5 hb1
  obtain ⟨⟨q0, q1, q2, q3, q4⟩, ⟨f0, f1, f2, f3, f4⟩⟩ := bx5 hb2
  clear hL hn ht hu hwA hb1 hbA
  go_enter Try.func98, Try.ntmps98
  go_upto_region 1 with (fail)
  rw [← HW.out]
  by_cases h1 : 20 < L
  · have HE : Hid (R = (rk0, 2)) := Lib.hid (by rw [← HR.out]; unfold boundG; rw [if_pos (Or.inl (by rw [HL.out]; exact h1))])
    go_upto_region 2 with (fail)
    have hst := bx5_store (.int .i64 0) (.slice none 0 0) (.slice none 0 0) (.int .i64 0) (.int .i64 0) hb2
    obtain ⟨⟨s0, s1, s2, s3, s4⟩, -⟩ := bx5 hst
    have HBF := Lib.hid (bx5_below (.int .i64 0) (.slice none 0 0) (.slice none 0 0) (.int .i64 0) (.int .i64 0) (show w.heap.size ≤ w.heap.size + 1 by omega) HBA.out)
    clear hst hb2
    go_wp2_with fail
    refine bodyPost_ret (v := .tuple #[.agg #[.int .i64 0, .slice none 0 0, .slice none 0 0, .int .i64 0, .int .i64 0], .int .i64 2]) (by simp [results, Try.results98, go_sem, s0, s1, s2, s3, s4]) rfl ?_
    show RkPost _ _ _ _
    rw [HE.out]
    exact ⟨_, rfl, rkV_zero _, HBF.out⟩
  by_cases h2 : 1152921504606846976 < s.sl
  · have HE : Hid (R = (rk0, 2)) := Lib.hid (by rw [← HR.out]; unfold boundG; rw [if_pos (Or.inr h2)])
    go_upto_region 2 with (fail)
    have hst := bx5_store (.int .i64 0) (.slice none 0 0) (.slice none 0 0) (.int .i64 0) (.int .i64 0) hb2
    obtain ⟨⟨s0, s1, s2, s3, s4⟩, -⟩ := bx5 hst
    have HBF := Lib.hid (bx5_below (.int .i64 0) (.slice none 0 0) (.slice none 0 0) (.int .i64 0) (.int .i64 0) (show w.heap.size ≤ w.heap.size + 1 by omega) HBA.out)
    clear hst hb2
    go_wp2_with fail
    refine bodyPost_ret (v := .tuple #[.agg #[.int .i64 0, .slice none 0 0, .slice none 0 0, .int .i64 0, .int .i64 0], .int .i64 2]) (by simp [results, Try.results98, go_sem, s0, s1, s2, s3, s4]) rfl ?_
    show RkPost _ _ _ _
    rw [HE.out]
    exact ⟨_, rfl, rkV_zero _, HBF.out⟩
  have HE : Hid (R = (s, 0)) := Lib.hid (by rw [← HR.out]; unfold boundG; rw [if_neg (by rw [HL.out]; omega)])
  go_upto_region 3 with (fail)
  have hst := bx5_store (.int .i64 s.k) (.slice ao n c) (.slice bo L d) (.int .i64 s.n) (.int .i64 s.sl) hb2
  obtain ⟨⟨s0, s1, s2, s3, s4⟩, -⟩ := bx5 hst
  have HBF := Lib.hid (bx5_below (.int .i64 s.k) (.slice ao n c) (.slice bo L d) (.int .i64 s.n) (.int .i64 s.sl) (show w.heap.size ≤ w.heap.size + 1 by omega) HBA.out)
  clear hst hb2
  go_wp2_with fail
  refine bodyPost_ret (v := .tuple #[.agg #[.int .i64 s.k, .slice ao n c, .slice bo L d, .int .i64 s.n, .int .i64 s.sl], .int .i64 0]) (by simp [results, Try.results98, go_sem, s0, s1, s2, s3, s4]) rfl ?_
  show RkPost _ _ _ _
  rw [HE.out]
  exact ⟨_, rfl, HV.out.below HBF.out, HBF.out⟩
set_option maxHeartbeats 4000000 in
set_option maxRecDepth 100000 in
theorem samerank_any (v u : Value) (s : Rk) (w : World) (hv : RkV w v s) (hu : RkV w u s) :
    Calls Try.prog 96 #[v, u] w fun e w' => e = .returned (.bool true) ∧ Below w.heap.size w w' := by
  obtain ⟨t, u1, rfl, ht, hu1⟩ := hv
  obtain ⟨t', u2, rfl, ht', hu2⟩ := hu
  obtain ⟨ao, c, rfl, hnc, hc, -⟩ := ht.shape
  obtain ⟨bo, d, rfl, hod, hd⟩ := hu1.shape
  obtain ⟨ao', c', rfl, hnc', hc', -⟩ := ht'.shape
  obtain ⟨bo', d', rfl, hod', hd'⟩ := hu2.shape
  obtain ⟨L, hL⟩ : ∃ n, s.lv.length = n := ⟨_, rfl⟩
  obtain ⟨n, hn⟩ : ∃ n, s.tl.length = n := ⟨_, rfl⟩
  have HL := Lib.hid hL
  obtain ⟨wA, hwA⟩ : ∃ wA, wA = (w.alloc (Obj.cells #[.int .i64 s.k, .slice ao n c, .slice bo L d, .int .i64 s.n, .int .i64 s.sl] 141)).alloc (Obj.cells #[.int .i64 s.k, .slice ao' n c', .slice bo' L d', .int .i64 s.n, .int .i64 s.sl] 141) := ⟨_, rfl⟩
  have hb1 : wA.heap[w.heap.size]? = some (.cells #[.int .i64 s.k, .slice ao n c, .slice bo L d, .int .i64 s.n, .int .i64 s.sl] 141 (0, 0)) := by rw [hwA]; exact two_first w _ _
  have hb2 : wA.heap[w.heap.size + 1]? = some (.cells #[.int .i64 s.k, .slice ao' n c', .slice bo' L d', .int .i64 s.n, .int .i64 s.sl] 141 (0, 0)) := by rw [hwA]; exact two_second w _ _
  have hbA : Below w.heap.size w wA := by rw [hwA]; exact ((Below.refl _ _).alloc (Nat.le_refl _) _).alloc (by simp) _
  have HT1 := Lib.hid (ht.below hbA)
  have HT2 := Lib.hid (ht'.below hbA)
  have HU1 := Lib.hid (hu1.below lvR_mono hbA)
  have HU2 := Lib.hid (hu2.below lvR_mono hbA)
  rw [hn] at HT1 HT2 hnc hnc' ⊢
  rw [hL] at HU1 HU2 hod hod' ⊢
  have HW := Lib.hid hwA
  have HBA := Lib.hid hbA
  have hl1 : w.heap.size < wA.heap.size := (Array.getElem?_eq_some_iff.1 hb1).1
  have hl2 : w.heap.size + 1 < wA.heap.size := (Array.getElem?_eq_some_iff.1 hb2).1
  have HB1 := Lib.hid hb1
  have HB2 := Lib.hid hb2
  clear hL hn ht ht' hu1 hu2 hwA hbA
  have z0 : (s.k != s.k) = false := by simp
  have z1 : (s.n != s.n) = false := by simp
  have z2 : (s.sl != s.sl) = false := by simp
  obtain ⟨⟨d0, d1, d2, d3, d4⟩, -⟩ := bx5 hb1
  obtain ⟨⟨e0, e1, e2, e3, e4⟩, -⟩ := bx5 hb2
  clear hb1 hb2
  go_enter Try.func96, Try.ntmps96
  go_upto_region 1 with (fail)
  rw [← HW.out]
  go_wp2_with fail
  refine (samenum_any _ _ s.tl _ HT1.out HT2.out).mono ?_
  rintro e w1 ⟨rfl, q, rfl⟩
  go_wp2_with fail
  go_loopw [45] (fun i wr => ∃ k : Nat, k ≤ L ∧ i = .int .i64 k ∧ Below wA.heap.size wA wr) (fun i _ => L - (intOf i).toNat)
  case atStart => exact ⟨0, Nat.zero_le _, rfl, below_drewN (Below.refl _ _) _⟩
  case round =>
    obtain ⟨k, hk, rfl, hbr⟩ := hrel
    have y1 := (hbr.block _ hl1).trans HB1.out
    have y2 := (hbr.block _ hl2).trans HB2.out
    clear d0 d1 d2 d3 d4 e0 e1 e2 e3 e4
    obtain ⟨⟨d0, d1, d2, d3, d4⟩, -⟩ := bx5 y1
    obtain ⟨⟨e0, e1, e2, e3, e4⟩, -⟩ := bx5 y2
    clear y1 y2
    by_cases hlt : k < L
    · obtain ⟨l, hl⟩ : ∃ l, s.lv[k]? = some l := ⟨_, List.getElem?_eq_getElem (by rw [HL.out]; exact hlt)⟩
      obtain ⟨g, off, cs, rfl, ⟨t1, rfl, hns1⟩, _, hck⟩ := (HU1.out.below lvR_mono hbr).get hl
      obtain ⟨g', off', cs', rfl, ⟨t2, rfl, hns2⟩, _, hck'⟩ := (HU2.out.below lvR_mono hbr).get hl
      have c0 := hck 0 _ rfl
      have c1 := hck' 0 _ rfl
      rw [Nat.add_zero, Nat.mul_one] at c0 c1
      have HN1 : Hid (∀ q, Ns (wr.drewN q) t1 l) := Lib.hid (fun q => hns1.below (below_drewN (Below.refl _ _) q))
      have HN2 : Hid (∀ q, Ns (wr.drewN q) t2 l) := Lib.hid (fun q => hns2.below (below_drewN (Below.refl _ _) q))
      obtain ⟨lo, lc, rfl, -, -, -⟩ := hns1.shape
      obtain ⟨lo', lc', rfl, -, -, -⟩ := hns2.shape
      clear hck hck' hl hns1 hns2
      go_wp2_with fail
      go_quiet ((go_at_call 153; exact Calls.quiet_of (samenum_any _ _ l _ (HN1.out _) (HN2.out _))))
      go_wp2
      go_roundw
      case rel => exact ⟨k + 1, by omega, by go_num, below_drewN hbr _⟩
      case measure => simp [intOf]; omega
    · have hkL : k = L := by omega
      subst hkL
      go_wp2_with fail
      go_ret
      exact ⟨rfl, HBA.out.trans (hbr.mono HBA.out.size)⟩
end Go.Proofs.Ytcljeedmiobepaa.Rk
