/-
  The walk of the law SketchMerges.
-/
import Derived.Test.YtmbmognhbljliaaSk4
namespace Go.Proofs.Ytmbmognhbljliaa.SketchMerges
open Go.RowKit Go.Gh Go.Proofs.Ytmbmognhbljliaa.Sk
set_option linter.unusedVariables false
theorem sk_small {D W N : Int} {c : List Int} (h : headOk D W c N) : 0 < c.length ∧ c.length ≤ 1600 := by
  obtain ⟨⟨h1, h2, h3, h4⟩, hl, _⟩ := h
  have h5 : D * W ≤ 8 * 200 := Int.mul_le_mul h2 h4 (by omega) (by omega)
  have h6 : 0 < D * W := Int.mul_pos (by omega) (by omega)
  omega
/-- What stands in memory while want grows. -/
structure WantAt (B bs bw : Nat) (D W N N' : Int) (c c' : List Int) (n k : Nat) (va vb vs : Value) (NS : Int) (u : Value) (w wS wr : World) : Prop where
  bel2 : Below (bs + 1) wS wr
  own : wr.ownsRow (bs + 1) 2 1 u k ((sumL c c' k).map (Value.int .i64))
  boxA : wr.heap[B]? = some (.cells #[.int .i64 D, .int .i64 W, va, .int .i64 N] 66 (0, 0))
  boxB : wr.heap[B + 1]? = some (.cells #[.int .i64 D, .int .i64 W, vb, .int .i64 N'] 66 (0, 0))
  boxS : wr.heap[bs]? = some (.cells #[.int .i64 D, .int .i64 W, vs, .int .i64 NS] 66 (0, 0))
  boxW : wr.heap[bw]? = some (.cells #[.int .i64 D, .int .i64 W, u, .int .i64 NS] 66 (0, 0))
  bel : Below B w wr
theorem WantAt.step {B bs bw : Nat} {D W N N' NS : Int} {c c' : List Int} {n k : Nat} {va vb vs u v' : Value} {w wS wr w2 : World} (h : WantAt B bs bw D W N N' c c' n k va vb vs NS u w wS wr) (hb : B + 1 + 1 ≤ bs) (hbw : bs < bw) {z : Int} (hz : wrS (c.getD k 0 + c'.getD k 0) = z)
    (hown : w2.ownsRow (bs + 1) 2 1 v' (k + 1) ((sumL c c' k).map (Value.int .i64) ++ [z].map (Value.int .i64))) (hg : wr.grownBy w2 u.ownBlock) (hbel : Below B w w2) :
    WantAt B bs bw D W N N' c c' n (k + 1) va vb vs NS v' w wS (w2.setCell ⟨bw, 2, none⟩ v') := by
  have hlow : ∀ j, j < bs + 1 → u.ownBlock ≠ some j := fun j hj he => by have := (h.own.lt _ he).1; omega
  have hne1 : u.ownBlock ≠ some bs := own_block_ne h.own h.boxS (by decide)
  have hne2 : u.ownBlock ≠ some bw := own_block_ne h.own h.boxW (by decide)
  have a1 := grown_block2 hg (hlow B (by omega)) h.boxA
  have a2 := grown_block2 hg (hlow (B + 1) (by omega)) h.boxB
  have a3 := grown_block2 hg hne1 h.boxS
  have a4 := grown_block2 hg hne2 h.boxW
  have hne3 : v'.ownBlock ≠ some bw := own_block_ne hown a4 (by decide)
  have a5 := row_setCell 2 v' a4
  have hbwr : bw < wr.heap.size := (Array.getElem?_eq_some_iff.1 h.boxW).1
  have b2 : Below (bs + 1) wS (w2.setCell ⟨bw, 2, none⟩ v') := (Below.grown h.bel2 hg (by omega) (fun j hj => (h.own.lt _ hj).1)).setCell (p := ⟨bw, 2, none⟩) (show bs + 1 ≤ bw by omega) _
  refine ⟨b2, ?_, row_setCell_other _ a1 (by omega), row_setCell_other _ a2 (by omega), row_setCell_other _ a3 (by omega), by simpa using a5, hbel.setCell (p := ⟨bw, 2, none⟩) (show B ≤ bw by omega) _⟩
  have e : (sumL c c' (k + 1)).map (Value.int .i64) = (sumL c c' k).map (Value.int .i64) ++ [z].map (Value.int .i64) := by rw [sumL_succ, hz, List.map_append]
  rw [e]
  exact ownsRow_setCell_other hown (a := ⟨bw, 2, none⟩) hne3 _
theorem WantAt.grown {B bs bw : Nat} {D W N N' NS : Int} {c c' : List Int} {n k : Nat} {va vb vs u : Value} {w wS wr w2 : World} (h : WantAt B bs bw D W N N' c c' n k va vb vs NS u w wS wr) (hg : wr.grownBy w2 u.ownBlock) :
    w2.heap[bw]? = some (.cells #[.int .i64 D, .int .i64 W, u, .int .i64 NS] 66 (0, 0)) := grown_block2 hg (own_block_ne h.own h.boxW (by decide)) h.boxW
theorem cell1 {w : World} {B : Nat} {a : Value} {T : TypeId} (h : w.heap[B]? = some (.cells #[a] T (0, 0))) : w.cell? ⟨B, 0, none⟩ = some a := (row_cell 0 _ h rfl).1
set_option maxHeartbeats 8000000 in
set_option maxRecDepth 100000 in
theorem walk (v0 v1 : Value) (w : World) (h0 : IsSk w v0) (h1 : IsSk w v1) :
    Calls Try.prog 8 #[v0, v1] w fun e w' => e = .returned (.bool true) ∧ Below w.heap.size w w' := by
  obtain ⟨D, W, c, N, hv⟩ := h0
  obtain ⟨D', W', c', N', hv'⟩ := h1
  have hv0 := hv
  have hv0' := hv'
  obtain ⟨cv, n, rfl, hs, hl, hwf, hn, hD, hW, hN⟩ := hv
  obtain ⟨cu, m, rfl, ht, hm, hwf', hm2, hD', hW', hN'⟩ := hv'
  obtain ⟨ao, ca, rfl, hnc, hca, _⟩ := hs.shape
  obtain ⟨bo, cb, rfl, hmc, hcb, _⟩ := ht.shape
  obtain ⟨e1, he1⟩ : ∃ e, skF D W c N = e := ⟨_, rfl⟩
  obtain ⟨e2, he2⟩ : ∃ e, skF D' W' c' N' = e := ⟨_, rfl⟩
  have HE1 := Lib.hid he1
  have HE2 := Lib.hid he2
  have HL := Lib.hid hl
  have HM := Lib.hid hm
  obtain ⟨wA, hwA⟩ : ∃ wA, wA = (w.alloc (Obj.cells #[.int .i64 D, .int .i64 W, .slice ao n ca, .int .i64 N] 66)).alloc (Obj.cells #[.int .i64 D', .int .i64 W', .slice bo m cb, .int .i64 N'] 66) := ⟨_, rfl⟩
  have hAb : Below w.heap.size w wA := by rw [hwA]; exact ((Below.refl _ w).alloc (Nat.le_refl _) _).alloc (by simp) _
  have hA0 : wA.heap[w.heap.size]? = some (.cells #[.int .i64 D, .int .i64 W, .slice ao n ca, .int .i64 N] 66 (0, 0)) := by rw [hwA]; exact two_first w _ _
  have hA1 : wA.heap[w.heap.size + 1]? = some (.cells #[.int .i64 D', .int .i64 W', .slice bo m cb, .int .i64 N'] 66 (0, 0)) := by rw [hwA]; exact two_second w _ _
  have hAs : wA.heap.size = w.heap.size + 1 + 1 := by rw [hwA]; simp
  clear hl hm he1 he2 hwf hwf'
  by_cases hz1 : e1 = 0
  case neg =>
    have HMG : Hid (mrg D W c N D' W' c' N' = (zeroSk, e1)) := Lib.hid (mrg_bad1 HE1.out hz1)
    have t1 : (e1 != 0) = true := by rw [bne_iff_ne]; exact hz1
    have t2 : (e1 == 0) = false := beq_eq_false_iff_ne.2 hz1
    have t3 : (e1 == e1) = true := by simp
    clear hz1
    go_enter Try.func8, Try.ntmps8
    go_wp2_with fail
    rw [← hwA]
    refine (merge_any _ _ D W N D' W' N' c c' _ (hv0.below hAb) (hv0'.below hAb)).mono ?_
    rw [HMG.out]
    rintro e w1 ⟨vs, rfl, hsk, hb1⟩
    have hsk2 : SkV w1 vs 0 0 [] 0 := hsk
    clear hsk
    obtain ⟨cs, ns, rfl, hss, hsl, hswf, hsn, hs5, hs6, hs7⟩ := hsk2
    obtain ⟨aos, cas, rfl, _⟩ := hss.shape
    have hB1 := hAb.trans (hb1.mono hAb.size)
    have q0 := (hb1.block w.heap.size (by omega)).trans hA0
    have q1 := (hb1.block (w.heap.size + 1) (by omega)).trans hA1
    have hsz1 := hb1.size
    have HSK : Hid (SkV w1 (.agg #[.int .i64 0, .int .i64 0, .slice aos ns cas, .int .i64 0]) 0 0 [] 0) := ⟨.slice aos ns cas, ns, rfl, hss, hsl, hswf, hsn, hs5, hs6, hs7⟩
    clear hss hsl hswf hs5 hs6 hs7
    go_upto_region 2 with (fail)
    have hBS := hB1.alloc hB1.size (Obj.cells #[.int .i64 0, .int .i64 0, .slice aos ns cas, .int .i64 0] 66)
    have qS : (w1.alloc (Obj.cells #[.int .i64 0, .int .i64 0, .slice aos ns cas, .int .i64 0] 66)).heap[w1.heap.size]? = some (.cells #[.int .i64 0, .int .i64 0, .slice aos ns cas, .int .i64 0] 66 (0, 0)) := heap_alloc_new w1 _
    have qA := (Below.heap_alloc w1 (Obj.cells #[.int .i64 0, .int .i64 0, .slice aos ns cas, .int .i64 0] 66) w.heap.size (by omega)).trans q0
    have qB := (Below.heap_alloc w1 (Obj.cells #[.int .i64 0, .int .i64 0, .slice aos ns cas, .int .i64 0] 66) (w.heap.size + 1) (by omega)).trans q1
    have HSS : Hid (SkV (w1.alloc (Obj.cells #[.int .i64 0, .int .i64 0, .slice aos ns cas, .int .i64 0] 66)) (.agg #[.int .i64 0, .int .i64 0, .slice aos ns cas, .int .i64 0]) 0 0 [] 0) := HSK.out.below ((Below.refl _ w1).alloc (Nat.le_refl _) _)
    clear q0 q1 HSK
    have hsS : (w1.alloc (Obj.cells #[.int .i64 0, .int .i64 0, .slice aos ns cas, .int .i64 0] 66)).heap.size = w1.heap.size + 1 := by simp
    generalize hbs : w1.heap.size = bs at *
    generalize w1.alloc (Obj.cells #[.int .i64 0, .int .i64 0, .slice aos ns cas, .int .i64 0] 66) = wS at *
    clear hbs
    obtain ⟨⟨x0, x1, x2, x3⟩, -⟩ := box4 qA
    obtain ⟨⟨y0, y1, y2, y3⟩, -⟩ := box4 qB
    go_wp2_with fail
    refine (fault_any _ D W N c _ (hv0.below hBS)).mono ?_
    rw [HE1.out]
    rintro e w2 ⟨rfl, hb2⟩
    clear x0 x1 x2 x3 y0 y1 y2 y3
    have q0 := (hb2.block w.heap.size (by omega)).trans qA
    have q1 := (hb2.block (w.heap.size + 1) (by omega)).trans qB
    have qs := (hb2.block bs (by omega)).trans qS
    obtain ⟨⟨x0, x1, x2, x3⟩, -⟩ := box4 q0
    obtain ⟨⟨y0, y1, y2, y3⟩, -⟩ := box4 q1
    obtain ⟨⟨s0, s1, s2, s3⟩, -⟩ := box4 qs
    have hB2 := hBS.trans (hb2.mono hBS.size)
    go_wp2_with fail
    refine (same_any _ _ 0 0 0 [] _ (HSS.out.below hb2) (skZero _)).mono ?_
    rintro e w9 ⟨rfl, hb9⟩
    go_wp2_with fail
    go_ret
    exact ⟨rfl, hB2.trans (hb9.mono hB2.size)⟩
  subst hz1
  by_cases hz2 : e2 = 0
  case neg =>
    have HMG : Hid (mrg D W c N D' W' c' N' = (zeroSk, e2)) := Lib.hid (mrg_bad2 HE1.out HE2.out hz2)
    have t1 : (e2 != 0) = true := by rw [bne_iff_ne]; exact hz2
    have t2 : (e2 == 0) = false := beq_eq_false_iff_ne.2 hz2
    have t3 : (e2 == e2) = true := by simp
    clear hz2
    go_enter Try.func8, Try.ntmps8
    go_wp2_with fail
    rw [← hwA]
    refine (merge_any _ _ D W N D' W' N' c c' _ (hv0.below hAb) (hv0'.below hAb)).mono ?_
    rw [HMG.out]
    rintro e w1 ⟨vs, rfl, hsk, hb1⟩
    have hsk2 : SkV w1 vs 0 0 [] 0 := hsk
    clear hsk
    obtain ⟨cs, ns, rfl, hss, hsl, hswf, hsn, hs5, hs6, hs7⟩ := hsk2
    obtain ⟨aos, cas, rfl, _⟩ := hss.shape
    have hB1 := hAb.trans (hb1.mono hAb.size)
    have q0 := (hb1.block w.heap.size (by omega)).trans hA0
    have q1 := (hb1.block (w.heap.size + 1) (by omega)).trans hA1
    have hsz1 := hb1.size
    have HSK : Hid (SkV w1 (.agg #[.int .i64 0, .int .i64 0, .slice aos ns cas, .int .i64 0]) 0 0 [] 0) := ⟨.slice aos ns cas, ns, rfl, hss, hsl, hswf, hsn, hs5, hs6, hs7⟩
    clear hss hsl hswf hs5 hs6 hs7
    go_upto_region 2 with (fail)
    have hBS := hB1.alloc hB1.size (Obj.cells #[.int .i64 0, .int .i64 0, .slice aos ns cas, .int .i64 0] 66)
    have qS : (w1.alloc (Obj.cells #[.int .i64 0, .int .i64 0, .slice aos ns cas, .int .i64 0] 66)).heap[w1.heap.size]? = some (.cells #[.int .i64 0, .int .i64 0, .slice aos ns cas, .int .i64 0] 66 (0, 0)) := heap_alloc_new w1 _
    have qA := (Below.heap_alloc w1 (Obj.cells #[.int .i64 0, .int .i64 0, .slice aos ns cas, .int .i64 0] 66) w.heap.size (by omega)).trans q0
    have qB := (Below.heap_alloc w1 (Obj.cells #[.int .i64 0, .int .i64 0, .slice aos ns cas, .int .i64 0] 66) (w.heap.size + 1) (by omega)).trans q1
    have HSS : Hid (SkV (w1.alloc (Obj.cells #[.int .i64 0, .int .i64 0, .slice aos ns cas, .int .i64 0] 66)) (.agg #[.int .i64 0, .int .i64 0, .slice aos ns cas, .int .i64 0]) 0 0 [] 0) := HSK.out.below ((Below.refl _ w1).alloc (Nat.le_refl _) _)
    clear q0 q1 HSK
    have hsS : (w1.alloc (Obj.cells #[.int .i64 0, .int .i64 0, .slice aos ns cas, .int .i64 0] 66)).heap.size = w1.heap.size + 1 := by simp
    generalize hbs : w1.heap.size = bs at *
    generalize w1.alloc (Obj.cells #[.int .i64 0, .int .i64 0, .slice aos ns cas, .int .i64 0] 66) = wS at *
    clear hbs
    obtain ⟨⟨x0, x1, x2, x3⟩, -⟩ := box4 qA
    obtain ⟨⟨y0, y1, y2, y3⟩, -⟩ := box4 qB
    go_wp2_with fail
    refine (fault_any _ D W N c _ (hv0.below hBS)).mono ?_
    rw [HE1.out]
    rintro e w2 ⟨rfl, hb2⟩
    clear x0 x1 x2 x3 y0 y1 y2 y3
    have q0 := (hb2.block w.heap.size (by omega)).trans qA
    have q1 := (hb2.block (w.heap.size + 1) (by omega)).trans qB
    have qs := (hb2.block bs (by omega)).trans qS
    obtain ⟨⟨x0, x1, x2, x3⟩, -⟩ := box4 q0
    obtain ⟨⟨y0, y1, y2, y3⟩, -⟩ := box4 q1
    obtain ⟨⟨s0, s1, s2, s3⟩, -⟩ := box4 qs
    have hB2 := hBS.trans (hb2.mono hBS.size)
    go_wp2_with fail
    refine (fault_any _ D' W' N' c' _ (hv0'.below hB2)).mono ?_
    rw [HE2.out]
    rintro e w3 ⟨rfl, hb3⟩
    clear x0 x1 x2 x3 y0 y1 y2 y3 s0 s1 s2 s3
    have hb23 := hb2.trans (hb3.mono hb2.size)
    have q0 := (hb23.block w.heap.size (by omega)).trans qA
    have q1 := (hb23.block (w.heap.size + 1) (by omega)).trans qB
    have qs := (hb23.block bs (by omega)).trans qS
    obtain ⟨⟨x0, x1, x2, x3⟩, -⟩ := box4 q0
    obtain ⟨⟨y0, y1, y2, y3⟩, -⟩ := box4 q1
    obtain ⟨⟨s0, s1, s2, s3⟩, -⟩ := box4 qs
    have hB3 := hB2.trans (hb3.mono hB2.size)
    go_wp2_with fail
    refine (same_any _ _ 0 0 0 [] _ (HSS.out.below hb23) (skZero _)).mono ?_
    rintro e w9 ⟨rfl, hb9⟩
    go_wp2_with fail
    go_ret
    exact ⟨rfl, hB3.trans (hb9.mono hB3.size)⟩
  subst hz2
  have hh1 := head_of HE1.out
  have hh2 := head_of HE2.out
  by_cases hDD : D = D'
  case neg =>
    have HMG : Hid (mrg D W c N D' W' c' N' = (zeroSk, 1)) := Lib.hid (mrg_size HE1.out HE2.out (fun h => hDD h.1))
    have t1 : (D != D') = true := by rw [bne_iff_ne]; exact hDD
    clear hDD hh1 hh2
    go_enter Try.func8, Try.ntmps8
    go_wp2_with fail
    rw [← hwA]
    refine (merge_any _ _ D W N D' W' N' c c' _ (hv0.below hAb) (hv0'.below hAb)).mono ?_
    rw [HMG.out]
    rintro e w1 ⟨vs, rfl, hsk, hb1⟩
    have hsk2 : SkV w1 vs 0 0 [] 0 := hsk
    clear hsk
    obtain ⟨cs, ns, rfl, hss, hsl, hswf, hsn, hs5, hs6, hs7⟩ := hsk2
    obtain ⟨aos, cas, rfl, _⟩ := hss.shape
    have hB1 := hAb.trans (hb1.mono hAb.size)
    have q0 := (hb1.block w.heap.size (by omega)).trans hA0
    have q1 := (hb1.block (w.heap.size + 1) (by omega)).trans hA1
    have hsz1 := hb1.size
    have HSK : Hid (SkV w1 (.agg #[.int .i64 0, .int .i64 0, .slice aos ns cas, .int .i64 0]) 0 0 [] 0) := ⟨.slice aos ns cas, ns, rfl, hss, hsl, hswf, hsn, hs5, hs6, hs7⟩
    clear hss hsl hswf hs5 hs6 hs7
    go_upto_region 2 with (fail)
    have hBS := hB1.alloc hB1.size (Obj.cells #[.int .i64 0, .int .i64 0, .slice aos ns cas, .int .i64 0] 66)
    have qS : (w1.alloc (Obj.cells #[.int .i64 0, .int .i64 0, .slice aos ns cas, .int .i64 0] 66)).heap[w1.heap.size]? = some (.cells #[.int .i64 0, .int .i64 0, .slice aos ns cas, .int .i64 0] 66 (0, 0)) := heap_alloc_new w1 _
    have qA := (Below.heap_alloc w1 (Obj.cells #[.int .i64 0, .int .i64 0, .slice aos ns cas, .int .i64 0] 66) w.heap.size (by omega)).trans q0
    have qB := (Below.heap_alloc w1 (Obj.cells #[.int .i64 0, .int .i64 0, .slice aos ns cas, .int .i64 0] 66) (w.heap.size + 1) (by omega)).trans q1
    have HSS : Hid (SkV (w1.alloc (Obj.cells #[.int .i64 0, .int .i64 0, .slice aos ns cas, .int .i64 0] 66)) (.agg #[.int .i64 0, .int .i64 0, .slice aos ns cas, .int .i64 0]) 0 0 [] 0) := HSK.out.below ((Below.refl _ w1).alloc (Nat.le_refl _) _)
    clear q0 q1 HSK
    have hsS : (w1.alloc (Obj.cells #[.int .i64 0, .int .i64 0, .slice aos ns cas, .int .i64 0] 66)).heap.size = w1.heap.size + 1 := by simp
    generalize hbs : w1.heap.size = bs at *
    generalize w1.alloc (Obj.cells #[.int .i64 0, .int .i64 0, .slice aos ns cas, .int .i64 0] 66) = wS at *
    clear hbs
    obtain ⟨⟨x0, x1, x2, x3⟩, -⟩ := box4 qA
    obtain ⟨⟨y0, y1, y2, y3⟩, -⟩ := box4 qB
    go_wp2_with fail
    refine (fault_any _ D W N c _ (hv0.below hBS)).mono ?_
    rw [HE1.out]
    rintro e w2 ⟨rfl, hb2⟩
    clear x0 x1 x2 x3 y0 y1 y2 y3
    have q0 := (hb2.block w.heap.size (by omega)).trans qA
    have q1 := (hb2.block (w.heap.size + 1) (by omega)).trans qB
    have qs := (hb2.block bs (by omega)).trans qS
    obtain ⟨⟨x0, x1, x2, x3⟩, -⟩ := box4 q0
    obtain ⟨⟨y0, y1, y2, y3⟩, -⟩ := box4 q1
    obtain ⟨⟨s0, s1, s2, s3⟩, -⟩ := box4 qs
    have hB2 := hBS.trans (hb2.mono hBS.size)
    go_wp2_with fail
    refine (fault_any _ D' W' N' c' _ (hv0'.below hB2)).mono ?_
    rw [HE2.out]
    rintro e w3 ⟨rfl, hb3⟩
    clear x0 x1 x2 x3 y0 y1 y2 y3 s0 s1 s2 s3
    have hb23 := hb2.trans (hb3.mono hb2.size)
    have q0 := (hb23.block w.heap.size (by omega)).trans qA
    have q1 := (hb23.block (w.heap.size + 1) (by omega)).trans qB
    have qs := (hb23.block bs (by omega)).trans qS
    obtain ⟨⟨x0, x1, x2, x3⟩, -⟩ := box4 q0
    obtain ⟨⟨y0, y1, y2, y3⟩, -⟩ := box4 q1
    obtain ⟨⟨s0, s1, s2, s3⟩, -⟩ := box4 qs
    have hB3 := hB2.trans (hb3.mono hB2.size)
    go_wp2_with fail
    refine (same_any _ _ 0 0 0 [] _ (HSS.out.below hb23) (skZero _)).mono ?_
    rintro e w9 ⟨rfl, hb9⟩
    go_wp2_with fail
    go_ret
    exact ⟨rfl, hB3.trans (hb9.mono hB3.size)⟩
  subst hDD
  by_cases hWW : W = W'
  case neg =>
    have HMG : Hid (mrg D W c N D W' c' N' = (zeroSk, 1)) := Lib.hid (mrg_size HE1.out HE2.out (fun h => hWW h.2))
    have t1 : (W != W') = true := by rw [bne_iff_ne]; exact hWW
    have t2 : (D != D) = false := by simp
    clear hWW hh1 hh2
    go_enter Try.func8, Try.ntmps8
    go_wp2_with fail
    rw [← hwA]
    refine (merge_any _ _ D W N D W' N' c c' _ (hv0.below hAb) (hv0'.below hAb)).mono ?_
    rw [HMG.out]
    rintro e w1 ⟨vs, rfl, hsk, hb1⟩
    have hsk2 : SkV w1 vs 0 0 [] 0 := hsk
    clear hsk
    obtain ⟨cs, ns, rfl, hss, hsl, hswf, hsn, hs5, hs6, hs7⟩ := hsk2
    obtain ⟨aos, cas, rfl, _⟩ := hss.shape
    have hB1 := hAb.trans (hb1.mono hAb.size)
    have q0 := (hb1.block w.heap.size (by omega)).trans hA0
    have q1 := (hb1.block (w.heap.size + 1) (by omega)).trans hA1
    have hsz1 := hb1.size
    have HSK : Hid (SkV w1 (.agg #[.int .i64 0, .int .i64 0, .slice aos ns cas, .int .i64 0]) 0 0 [] 0) := ⟨.slice aos ns cas, ns, rfl, hss, hsl, hswf, hsn, hs5, hs6, hs7⟩
    clear hss hsl hswf hs5 hs6 hs7
    go_upto_region 2 with (fail)
    have hBS := hB1.alloc hB1.size (Obj.cells #[.int .i64 0, .int .i64 0, .slice aos ns cas, .int .i64 0] 66)
    have qS : (w1.alloc (Obj.cells #[.int .i64 0, .int .i64 0, .slice aos ns cas, .int .i64 0] 66)).heap[w1.heap.size]? = some (.cells #[.int .i64 0, .int .i64 0, .slice aos ns cas, .int .i64 0] 66 (0, 0)) := heap_alloc_new w1 _
    have qA := (Below.heap_alloc w1 (Obj.cells #[.int .i64 0, .int .i64 0, .slice aos ns cas, .int .i64 0] 66) w.heap.size (by omega)).trans q0
    have qB := (Below.heap_alloc w1 (Obj.cells #[.int .i64 0, .int .i64 0, .slice aos ns cas, .int .i64 0] 66) (w.heap.size + 1) (by omega)).trans q1
    have HSS : Hid (SkV (w1.alloc (Obj.cells #[.int .i64 0, .int .i64 0, .slice aos ns cas, .int .i64 0] 66)) (.agg #[.int .i64 0, .int .i64 0, .slice aos ns cas, .int .i64 0]) 0 0 [] 0) := HSK.out.below ((Below.refl _ w1).alloc (Nat.le_refl _) _)
    clear q0 q1 HSK
    have hsS : (w1.alloc (Obj.cells #[.int .i64 0, .int .i64 0, .slice aos ns cas, .int .i64 0] 66)).heap.size = w1.heap.size + 1 := by simp
    generalize hbs : w1.heap.size = bs at *
    generalize w1.alloc (Obj.cells #[.int .i64 0, .int .i64 0, .slice aos ns cas, .int .i64 0] 66) = wS at *
    clear hbs
    obtain ⟨⟨x0, x1, x2, x3⟩, -⟩ := box4 qA
    obtain ⟨⟨y0, y1, y2, y3⟩, -⟩ := box4 qB
    go_wp2_with fail
    refine (fault_any _ D W N c _ (hv0.below hBS)).mono ?_
    rw [HE1.out]
    rintro e w2 ⟨rfl, hb2⟩
    clear x0 x1 x2 x3 y0 y1 y2 y3
    have q0 := (hb2.block w.heap.size (by omega)).trans qA
    have q1 := (hb2.block (w.heap.size + 1) (by omega)).trans qB
    have qs := (hb2.block bs (by omega)).trans qS
    obtain ⟨⟨x0, x1, x2, x3⟩, -⟩ := box4 q0
    obtain ⟨⟨y0, y1, y2, y3⟩, -⟩ := box4 q1
    obtain ⟨⟨s0, s1, s2, s3⟩, -⟩ := box4 qs
    have hB2 := hBS.trans (hb2.mono hBS.size)
    go_wp2_with fail
    refine (fault_any _ D W' N' c' _ (hv0'.below hB2)).mono ?_
    rw [HE2.out]
    rintro e w3 ⟨rfl, hb3⟩
    clear x0 x1 x2 x3 y0 y1 y2 y3 s0 s1 s2 s3
    have hb23 := hb2.trans (hb3.mono hb2.size)
    have q0 := (hb23.block w.heap.size (by omega)).trans qA
    have q1 := (hb23.block (w.heap.size + 1) (by omega)).trans qB
    have qs := (hb23.block bs (by omega)).trans qS
    obtain ⟨⟨x0, x1, x2, x3⟩, -⟩ := box4 q0
    obtain ⟨⟨y0, y1, y2, y3⟩, -⟩ := box4 q1
    obtain ⟨⟨s0, s1, s2, s3⟩, -⟩ := box4 qs
    have hB3 := hB2.trans (hb3.mono hB2.size)
    go_wp2_with fail
    refine (same_any _ _ 0 0 0 [] _ (HSS.out.below hb23) (skZero _)).mono ?_
    rintro e w9 ⟨rfl, hb9⟩
    go_wp2_with fail
    go_ret
    exact ⟨rfl, hB3.trans (hb9.mono hB3.size)⟩
  subst hWW
  have t1 : (D != D) = false := by simp
  have t2 : (W != W) = false := by simp
  obtain ⟨hm0, hmL⟩ := sk_small hh1
  obtain rfl : m = n := by
    have a := hh1.2.1
    have b := hh2.2.1
    rw [HL.out] at a
    rw [HM.out] at b
    rw [← a] at b
    omega
  rw [HL.out] at hm0 hmL
  have hN1 := hh1.2.2
  have hN2 := hh2.2.2
  clear hh1 hh2
  by_cases hmuch : 1152921504606846976 - N' < N
  · have HMG : Hid (mrg D W c N D W c' N' = (zeroSk, 2)) := Lib.hid (mrg_much HE1.out HE2.out hmuch)
    go_enter Try.func8, Try.ntmps8
    go_wp2_with fail
    rw [← hwA]
    refine (merge_any _ _ D W N D W N' c c' _ (hv0.below hAb) (hv0'.below hAb)).mono ?_
    rw [HMG.out]
    rintro e w1 ⟨vs, rfl, hsk, hb1⟩
    have hsk2 : SkV w1 vs 0 0 [] 0 := hsk
    clear hsk
    obtain ⟨cs, ns, rfl, hss, hsl, hswf, hsn, hs5, hs6, hs7⟩ := hsk2
    obtain ⟨aos, cas, rfl, _⟩ := hss.shape
    have hB1 := hAb.trans (hb1.mono hAb.size)
    have q0 := (hb1.block w.heap.size (by omega)).trans hA0
    have q1 := (hb1.block (w.heap.size + 1) (by omega)).trans hA1
    have hsz1 := hb1.size
    have HSK : Hid (SkV w1 (.agg #[.int .i64 0, .int .i64 0, .slice aos ns cas, .int .i64 0]) 0 0 [] 0) := ⟨.slice aos ns cas, ns, rfl, hss, hsl, hswf, hsn, hs5, hs6, hs7⟩
    clear hss hsl hswf hs5 hs6 hs7
    go_upto_region 2 with (fail)
    have hBS := hB1.alloc hB1.size (Obj.cells #[.int .i64 0, .int .i64 0, .slice aos ns cas, .int .i64 0] 66)
    have qS : (w1.alloc (Obj.cells #[.int .i64 0, .int .i64 0, .slice aos ns cas, .int .i64 0] 66)).heap[w1.heap.size]? = some (.cells #[.int .i64 0, .int .i64 0, .slice aos ns cas, .int .i64 0] 66 (0, 0)) := heap_alloc_new w1 _
    have qA := (Below.heap_alloc w1 (Obj.cells #[.int .i64 0, .int .i64 0, .slice aos ns cas, .int .i64 0] 66) w.heap.size (by omega)).trans q0
    have qB := (Below.heap_alloc w1 (Obj.cells #[.int .i64 0, .int .i64 0, .slice aos ns cas, .int .i64 0] 66) (w.heap.size + 1) (by omega)).trans q1
    have HSS : Hid (SkV (w1.alloc (Obj.cells #[.int .i64 0, .int .i64 0, .slice aos ns cas, .int .i64 0] 66)) (.agg #[.int .i64 0, .int .i64 0, .slice aos ns cas, .int .i64 0]) 0 0 [] 0) := HSK.out.below ((Below.refl _ w1).alloc (Nat.le_refl _) _)
    clear q0 q1 HSK
    have hsS : (w1.alloc (Obj.cells #[.int .i64 0, .int .i64 0, .slice aos ns cas, .int .i64 0] 66)).heap.size = w1.heap.size + 1 := by simp
    generalize hbs : w1.heap.size = bs at *
    generalize w1.alloc (Obj.cells #[.int .i64 0, .int .i64 0, .slice aos ns cas, .int .i64 0] 66) = wS at *
    clear hbs
    obtain ⟨⟨x0, x1, x2, x3⟩, -⟩ := box4 qA
    obtain ⟨⟨y0, y1, y2, y3⟩, -⟩ := box4 qB
    go_wp2_with fail
    refine (fault_any _ D W N c _ (hv0.below hBS)).mono ?_
    rw [HE1.out]
    rintro e w2 ⟨rfl, hb2⟩
    clear x0 x1 x2 x3 y0 y1 y2 y3
    have q0 := (hb2.block w.heap.size (by omega)).trans qA
    have q1 := (hb2.block (w.heap.size + 1) (by omega)).trans qB
    have qs := (hb2.block bs (by omega)).trans qS
    obtain ⟨⟨x0, x1, x2, x3⟩, -⟩ := box4 q0
    obtain ⟨⟨y0, y1, y2, y3⟩, -⟩ := box4 q1
    obtain ⟨⟨s0, s1, s2, s3⟩, -⟩ := box4 qs
    have hB2 := hBS.trans (hb2.mono hBS.size)
    go_wp2_with fail
    refine (fault_any _ D W N' c' _ (hv0'.below hB2)).mono ?_
    rw [HE2.out]
    rintro e w3 ⟨rfl, hb3⟩
    clear x0 x1 x2 x3 y0 y1 y2 y3 s0 s1 s2 s3
    have hb23 := hb2.trans (hb3.mono hb2.size)
    have q0 := (hb23.block w.heap.size (by omega)).trans qA
    have q1 := (hb23.block (w.heap.size + 1) (by omega)).trans qB
    have qs := (hb23.block bs (by omega)).trans qS
    obtain ⟨⟨x0, x1, x2, x3⟩, -⟩ := box4 q0
    obtain ⟨⟨y0, y1, y2, y3⟩, -⟩ := box4 q1
    obtain ⟨⟨s0, s1, s2, s3⟩, -⟩ := box4 qs
    have hB3 := hB2.trans (hb3.mono hB2.size)
    go_wp2_with fail
    refine (same_any _ _ 0 0 0 [] _ (HSS.out.below hb23) (skZero _)).mono ?_
    rintro e w9 ⟨rfl, hb9⟩
    go_wp2_with fail
    go_ret
    exact ⟨rfl, hB3.trans (hb9.mono hB3.size)⟩
  have HMG : Hid (mrg D W c N D W c' N' = ((D, W, sumL c c' m, N + N'), 0)) := Lib.hid (mrg_ok HE1.out HE2.out hmuch HL.out)
  go_enter Try.func8, Try.ntmps8
  go_wp2_with fail
  rw [← hwA]
  refine (merge_any _ _ D W N D W N' c c' _ (hv0.below hAb) (hv0'.below hAb)).mono ?_
  rw [HMG.out]
  rintro e w1 ⟨vs, rfl, hsk, hb1⟩
  have hsk2 : SkV w1 vs D W (sumL c c' m) (N + N') := hsk
  clear hsk
  obtain ⟨cs, ns, rfl, hss, hsl, hswf, hsn, hs5, hs6, hs7⟩ := hsk2
  obtain ⟨aos, cas, rfl, _⟩ := hss.shape
  have hB1 := hAb.trans (hb1.mono hAb.size)
  have q0 := (hb1.block w.heap.size (by omega)).trans hA0
  have q1 := (hb1.block (w.heap.size + 1) (by omega)).trans hA1
  have hsz1 := hb1.size
  have HSK : Hid (SkV w1 (.agg #[.int .i64 D, .int .i64 W, .slice aos ns cas, .int .i64 (N + N')]) D W (sumL c c' m) (N + N')) := ⟨.slice aos ns cas, ns, rfl, hss, hsl, hswf, hsn, hs5, hs6, hs7⟩
  clear hss hsl hswf hs5 hs6 hs7
  go_upto_region 2 with (fail)
  have hBS := hB1.alloc hB1.size (Obj.cells #[.int .i64 D, .int .i64 W, .slice aos ns cas, .int .i64 (N + N')] 66)
  have qS : (w1.alloc (Obj.cells #[.int .i64 D, .int .i64 W, .slice aos ns cas, .int .i64 (N + N')] 66)).heap[w1.heap.size]? = some (.cells #[.int .i64 D, .int .i64 W, .slice aos ns cas, .int .i64 (N + N')] 66 (0, 0)) := heap_alloc_new w1 _
  have qA := (Below.heap_alloc w1 (Obj.cells #[.int .i64 D, .int .i64 W, .slice aos ns cas, .int .i64 (N + N')] 66) w.heap.size (by omega)).trans q0
  have qB := (Below.heap_alloc w1 (Obj.cells #[.int .i64 D, .int .i64 W, .slice aos ns cas, .int .i64 (N + N')] 66) (w.heap.size + 1) (by omega)).trans q1
  have HSS : Hid (SkV (w1.alloc (Obj.cells #[.int .i64 D, .int .i64 W, .slice aos ns cas, .int .i64 (N + N')] 66)) (.agg #[.int .i64 D, .int .i64 W, .slice aos ns cas, .int .i64 (N + N')]) D W (sumL c c' m) (N + N')) := HSK.out.below ((Below.refl _ w1).alloc (Nat.le_refl _) _)
  clear q0 q1 HSK
  have hsS : (w1.alloc (Obj.cells #[.int .i64 D, .int .i64 W, .slice aos ns cas, .int .i64 (N + N')] 66)).heap.size = w1.heap.size + 1 := by simp
  generalize hbs : w1.heap.size = bs at *
  generalize w1.alloc (Obj.cells #[.int .i64 D, .int .i64 W, .slice aos ns cas, .int .i64 (N + N')] 66) = wS at *
  clear hbs
  obtain ⟨⟨x0, x1, x2, x3⟩, -⟩ := box4 qA
  obtain ⟨⟨y0, y1, y2, y3⟩, -⟩ := box4 qB
  go_wp2_with fail
  refine (fault_any _ D W N c _ (hv0.below hBS)).mono ?_
  rw [HE1.out]
  rintro e w2 ⟨rfl, hb2⟩
  clear x0 x1 x2 x3 y0 y1 y2 y3
  have q0 := (hb2.block w.heap.size (by omega)).trans qA
  have q1 := (hb2.block (w.heap.size + 1) (by omega)).trans qB
  have qs := (hb2.block bs (by omega)).trans qS
  obtain ⟨⟨x0, x1, x2, x3⟩, -⟩ := box4 q0
  obtain ⟨⟨y0, y1, y2, y3⟩, -⟩ := box4 q1
  obtain ⟨⟨s0, s1, s2, s3⟩, -⟩ := box4 qs
  have hB2 := hBS.trans (hb2.mono hBS.size)
  go_wp2_with fail
  refine (fault_any _ D W N' c' _ (hv0'.below hB2)).mono ?_
  rw [HE2.out]
  rintro e w3 ⟨rfl, hb3⟩
  clear x0 x1 x2 x3 y0 y1 y2 y3 s0 s1 s2 s3
  have hb23 := hb2.trans (hb3.mono hb2.size)
  have q0 := (hb23.block w.heap.size (by omega)).trans qA
  have q1 := (hb23.block (w.heap.size + 1) (by omega)).trans qB
  have qs := (hb23.block bs (by omega)).trans qS
  obtain ⟨⟨x0, x1, x2, x3⟩, -⟩ := box4 q0
  obtain ⟨⟨y0, y1, y2, y3⟩, -⟩ := box4 q1
  obtain ⟨⟨s0, s1, s2, s3⟩, -⟩ := box4 qs
  have hB3 := hB2.trans (hb3.mono hB2.size)
  have d1 : (D == D) = true := by simp
  go_upto_region 12 with (fail)
  have hsz3 : bs < w3.heap.size := by have := hb23.size; omega
  have hW0 : WantAt w.heap.size bs w3.heap.size D W N N' c c' m 0 (.slice ao m ca) (.slice bo m cb) (.slice aos ns cas) (N + N') (.slice none 0 0) w wS (w3.alloc (Obj.cells #[.int .i64 D, .int .i64 W, .slice none 0 0, .int .i64 (N + N')] 66)) :=
    ⟨by rw [← hsS]; exact hb23.alloc hb23.size _, World.ownsRow_nil _ _ _ _, (Below.heap_alloc _ _ _ (by omega)).trans q0, (Below.heap_alloc _ _ _ (by omega)).trans q1, (Below.heap_alloc _ _ _ (by omega)).trans qs, heap_alloc_new w3 _, hB3.alloc hB3.size _⟩
  clear x0 x1 x2 x3 y0 y1 y2 y3 s0 s1 s2 s3 q0 q1 qs qA qB qS
  have hszW : (w3.alloc (Obj.cells #[.int .i64 D, .int .i64 W, .slice none 0 0, .int .i64 (N + N')] 66)).heap.size = w3.heap.size + 1 := by simp
  generalize hbw : w3.heap.size = bw at *
  generalize w3.alloc (Obj.cells #[.int .i64 D, .int .i64 W, .slice none 0 0, .int .i64 (N + N')] 66) = wW at *
  clear hbw
  have HW0 := Lib.hid hW0
  obtain ⟨⟨x0, x1, x2, x3⟩, -⟩ := box4 hW0.boxA
  clear hW0
  go_wp2_with fail
  go_loopw [9, 71] (fun _ i wr => ∃ (k : Nat) (u : Value), k ≤ m ∧ i = .int .i64 k ∧ Hid (WantAt w.heap.size bs bw D W N N' c c' m k (.slice ao m ca) (.slice bo m cb) (.slice aos ns cas) (N + N') u w wS wr)) (fun _ i _ => m - (intOf i).toNat)
  case atStart => exact ⟨0, _, by omega, rfl, HW0⟩
  case round =>
    obtain ⟨k, u, hk, rfl, HW⟩ := hrel
    have hb2' := HW.out.bel2
    rw [← hsS] at hb2'
    have HSR := Lib.hid (HSS.out.below hb2')
    clear hb2'
    clear x0 x1 x2 x3
    obtain ⟨uo, uc, rfl, huc, huc2, _⟩ := own_shape HW.out.own
    have hbel := HW.out.bel
    obtain ⟨⟨x0, x1, x2, x3⟩, -⟩ := box4 HW.out.boxA
    obtain ⟨⟨y0, y1, y2, y3⟩, -⟩ := box4 HW.out.boxB
    obtain ⟨⟨z0, z1, z2, z3⟩, -⟩ := box4 HW.out.boxW
    obtain ⟨⟨s0, s1, s2, s3⟩, -⟩ := box4 HW.out.boxS
    by_cases hlt : k < m
    · obtain ⟨b1, off1, rfl, hc1⟩ := (hs.below hbel).int (i := k) hlt
      obtain ⟨b2, off2, rfl, hc2⟩ := (ht.below hbel).int (i := k) hlt
      obtain ⟨x, hx⟩ : ∃ x, c.getD k 0 = x := ⟨_, rfl⟩
      obtain ⟨y, hy⟩ : ∃ y, c'.getD k 0 = y := ⟨_, rfl⟩
      obtain ⟨z, hz⟩ : ∃ z, IntKind.i64.wrap (x + y) = z := ⟨_, rfl⟩
      have HZ : Hid (Go.Proofs.Ytmbmognhbljliaa.Sk.wrS (c.getD k 0 + c'.getD k 0) = z) := by show _ = _; rw [hx, hy]; exact hz
      rw [hx] at hc1
      rw [hy] at hc2
      have hown := HW.out.own
      have hbo : w.heap.size ≤ bs + 1 := by omega
      have hbs1 : w.heap.size + 1 + 1 ≤ bs := by omega
      have hbw1 : bs < bw := hsz3
      have hBo : bs + 1 ≤ wr.heap.size := by have := (Array.getElem?_eq_some_iff.1 HW.out.boxS).1; omega
      have q1 : (k + 1) * 8 ≤ 140737488355328 := by omega
      have q2 : k + 1 ≤ 9223372036854775807 := by omega
      have hkz : (k : Int) < (m : Int) := by omega
      have hbwl : bw < wr.heap.size := (Array.getElem?_eq_some_iff.1 HW.out.boxW).1
      have zz2 : ∀ o : Obj, (wr.alloc o).cell? ⟨bw, 2, none⟩ = some (.slice uo k uc) := fun o => (((Below.refl _ wr).alloc (Nat.le_refl _) o).cell (p := ⟨bw, 2, none⟩) hbwl).trans z2
      clear hx hy
      go_wp2_with fail
      go_region_law (first
        | (refine step_app1 ([z].map (Value.int .i64)) elI64 rfl _ _ rfl (by exact hown) (by first | exact below_drewN hbel _ | exact (below_drewN hbel _).drew | exact hbel.drew) hbo hBo rfl rfl rfl (ints_one _) q1 q2 ?_; intro g cap w2 hown' hbel' hgr'; have hgq : wr.grownBy w2 (Value.slice uo k uc).ownBlock := ⟨hgr'.os, hgr'.tape, hgr'.output, hgr'.size, hgr'.block⟩; have a4 := HW.out.grown hgq; obtain ⟨⟨m0, m1, m2, m3⟩, ⟨n0, n1, n2, n3⟩⟩ := box4 a4)
        | (change if Region.wanted _ _ = true then Oper.wp _ _ _ (World.alloc (World.drew wr) (Obj.cells [Value.int .i64 z].toArray _)) _ _ else _; refine step_app1 ([z].map (Value.int .i64)) elI64 rfl _ _ rfl (by exact hown) (by first | exact below_drewN hbel _ | exact (below_drewN hbel _).drew | exact hbel.drew) hbo hBo rfl rfl rfl (ints_one _) q1 q2 ?_; intro g cap w2 hown' hbel' hgr'; have hgq : wr.grownBy w2 (Value.slice uo k uc).ownBlock := ⟨hgr'.os, hgr'.tape, hgr'.output, hgr'.size, hgr'.block⟩; have a4 := HW.out.grown hgq; obtain ⟨⟨m0, m1, m2, m3⟩, ⟨n0, n1, n2, n3⟩⟩ := box4 a4))
      all_goals
        have HN := Lib.hid (HW.out.step hbs1 hbw1 HZ.out hown' hgq hbel')
        clear hown' hgr'
        go_simp
        go_wp2_with fail
        go_roundw
        case rel => exact ⟨k + 1, _, by omega, by go_num, HN⟩
        case measure => simp [intOf]; omega
    · obtain rfl : k = m := by omega
      have hrow := own_sl HW.out.own
      have HWV : Hid (SkV wr (.agg #[.int .i64 D, .int .i64 W, .slice uo k uc, .int .i64 (N + N')]) D W (sumL c c' k) (N + N')) := by
        obtain ⟨_, _, _, _, _, hwf7, hn7, h87, h97, h107⟩ := HSR.out
        exact ⟨_, k, rfl, hrow, sumL_len _ _ _, hwf7, by omega, h87, h97, h107⟩
      clear hrow
      go_wp2_with fail
      refine (same_any _ _ D W (N + N') (sumL c c' k) _ HSR.out HWV.out).mono ?_
      rintro e w9 ⟨rfl, hb9⟩
      go_wp2_with fail
      go_ret
      exact ⟨rfl, hbel.trans (hb9.mono hbel.size)⟩
end Go.Proofs.Ytmbmognhbljliaa.SketchMerges
