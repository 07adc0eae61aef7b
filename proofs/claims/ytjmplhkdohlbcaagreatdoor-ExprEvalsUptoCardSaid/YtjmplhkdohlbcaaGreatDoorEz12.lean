/-
  The walk of pair (PRINTED in part by mkev5.py).
-/
import Derived.Test.YtjmplhkdohlbcaaGreatDoorEz11
import Derived.Shelf.SlSortCmp.NoneTotal
import Derived.Ground.SlsfProg
import Derived.Test.YtjmplhkdohlbcaaGreatDoorProg
import Derived.Shelf.Lay
import Derived.Shelf.LaySoft
import Derived.Shelf.Small.Strs
namespace Go.Proofs.YtjmplhkdohlbcaaGreatDoor.Evl
open Go.RowKit Go.Gh Go.Gh.Clr Go.WideShapes Go.Proofs.YtjmplhkdohlbcaaGreatDoor.Lab Go.Proofs.YtjmplhkdohlbcaaGreatDoor.Exp
set_option linter.unusedVariables false
set_option linter.unusedSimpArgs false
/-- What stands in the inner loop: the rows that are made, and the box of the outer row, which they do not touch. -/
def PrAt (B : Nat) (W0 : World) (U : List Rw) (o : Value) (yb : Nat) (bc : Array Value) (wr : World) : Prop := RowsAt B W0 U o wr ∧ wr.heap[yb]? = some (.cells bc 98 (0, 0)) ∧ o.ownBlock ≠ some yb
theorem fm_one {f : Rw → Option Rw} {z r : Rw} (h : f z = some r) : [z].filterMap f = [r] := by simp [h]
theorem fm_none {f : Rw → Option Rw} {z : Rw} (h : f z = none) : [z].filterMap f = [] := by simp [h]
theorem fm_step {f : Rw → Option Rw} {M : List Rw} {j : Nat} {z : Rw} (h : M[j]? = some z) : (M.take (j + 1)).filterMap f = (M.take j).filterMap f ++ [z].filterMap f := by
  rw [List.take_add_one, h, List.filterMap_append]
  rfl
theorem fl_step {f : Rw → List Rw} {L : List Rw} {i : Nat} {y : Rw} (h : L[i]? = some y) : (L.take (i + 1)).flatMap f = (L.take i).flatMap f ++ f y := by
  rw [List.take_add_one, h, List.flatMap_append]
  simp
theorem pr_len (k : Int) (a b : Bool) (L M : List Rw) (i j : Nat) (y : Rw) : ((L.take i).flatMap (fun y => M.filterMap (prP k a b y)) ++ (M.take j).filterMap (prP k a b y)).length ≤ L.length * M.length + M.length := by
  rw [List.length_append]
  have h1 := flat_le (f := fun y => M.filterMap (prP k a b y)) (c := M.length) (L := L.take i) (fun y _ => List.length_filterMap_le _ _)
  have h2 : ((M.take j).filterMap (prP k a b y)).length ≤ (M.take j).length := List.length_filterMap_le _ _
  have h3 : (M.take j).length ≤ M.length := by rw [List.length_take]; omega
  have h4 : (L.take i).length * M.length ≤ L.length * M.length := Nat.mul_le_mul_right _ (by rw [List.length_take]; omega)
  omega
/-- An expression's six cells, by a slice that came with them. -/
theorem ex_at {d n c i b off : Nat} {w : World} {xs : List Ex} {y : Ex} (h : Sp (ExD d) 6 w (.slice (some ⟨b, off, none⟩) n c) xs) (hy : xs[i]? = some y) : ∃ c0 c1 c2 m0 m1 m2 b0 b1 b2 x0 x1 x2, ExD d w y [.int .i64 c0, .int .i64 c1, .int .i64 c2, .slice m0 m1 m2, .slice b0 b1 b2, .slice x0 x1 x2] ∧
    w.cell? ⟨b, off + i * 6, none⟩ = some (.int .i64 c0) ∧ w.cell? ⟨b, off + i * 6 + 1, none⟩ = some (.int .i64 c1) ∧ w.cell? ⟨b, off + i * 6 + 2, none⟩ = some (.int .i64 c2) ∧ w.cell? ⟨b, off + i * 6 + 3, none⟩ = some (.slice m0 m1 m2) ∧ w.cell? ⟨b, off + i * 6 + 4, none⟩ = some (.slice b0 b1 b2) ∧ w.cell? ⟨b, off + i * 6 + 5, none⟩ = some (.slice x0 x1 x2) := by
  obtain ⟨b', off', cs, e, hd, -, hc⟩ := h.get hy
  simp at e
  obtain ⟨rfl, rfl⟩ := e
  obtain ⟨c0, c1, c2, m0, m1, m2, b0, b1, b2, x0, x1, x2, rfl⟩ := exD_shape hd
  have h0 := hc 0 _ rfl
  rw [Nat.add_zero] at h0
  exact ⟨c0, c1, c2, m0, m1, m2, b0, b1, b2, x0, x1, x2, hd, h0, hc 1 _ rfl, hc 2 _ rfl, hc 3 _ rfl, hc 4 _ rfl, hc 5 _ rfl⟩
set_option maxHeartbeats 16000000 in
set_option maxRecDepth 100000 in
theorem pair_any (L M : List Rw) (x y : Ex) (d : Nat) (v : Value) (now k n0 wd : Int) (um ub ux : Value) (w : World)
    (hux : Sp (ExD d) 6 w ux [x, y]) (hum : ∃ a n c, um = .slice a n c) (hub : ∃ a n c, ub = .slice a n c) (hvv : ∃ a n c, v = .slice a n c)
    (hGL : ∀ r ∈ L, labelF r.1 = 0) (hlL : L.length ≤ 1000) (hGM : ∀ r ∈ M, labelF r.1 = 0) (hlM : M.length ≤ 1000) (hT : STab w)
    (hevx : ∀ W c0 c1 c2 c3 c4 c5, Below w.heap.size w W → ExD d W x [c0, c1, c2, c3, c4, c5] → Calls Tryz.prog 57 #[.agg #[v, .int .i64 now], .agg #[c0, c1, c2, c3, c4, c5]] W (RsP W L))
    (hevy : ∀ W c0 c1 c2 c3 c4 c5, Below w.heap.size w W → ExD d W y [c0, c1, c2, c3, c4, c5] → Calls Tryz.prog 57 #[.agg #[v, .int .i64 now], .agg #[c0, c1, c2, c3, c4, c5]] W (RsP W M)) :
    Calls Tryz.prog 80 #[.agg #[v, .int .i64 now], .agg #[.int .i64 k, .int .i64 n0, .int .i64 wd, um, ub, ux]] w (RsP w (prsF k L M)) := by
  obtain ⟨av, nv, cv, rfl⟩ := hvv
  obtain ⟨am, nm, cm, rfl⟩ := hum
  obtain ⟨ab, nb, cb, rfl⟩ := hub
  obtain ⟨ax, cx, rfl, -, -⟩ := hux.shapeN (show [x, y].length = 2 from rfl)
  obtain ⟨W, hW⟩ : ∃ W, W = (w.alloc (.cells #[.slice av nv cv, .int .i64 now] 93)).alloc (.cells #[.int .i64 k, .int .i64 n0, .int .i64 wd, .slice am nm cm, .slice ab nb cb, .slice ax 2 cx] 38) := ⟨_, rfl⟩
  have hbW : Below w.heap.size w W := by rw [hW]; exact ((Below.refl _ w).alloc (Nat.le_refl _) _).alloc (by simp) _
  have hsz : W.heap.size = w.heap.size + 1 + 1 := by rw [hW]; simp
  have hb1 : W.heap[w.heap.size]? = some (.cells #[.slice av nv cv, .int .i64 now] 93 (0, 0)) := by rw [hW]; exact two_first w _ _
  have hb2 : W.heap[w.heap.size + 1]? = some (.cells #[.int .i64 k, .int .i64 n0, .int .i64 wd, .slice am nm cm, .slice ab nb cb, .slice ax 2 cx] 38 (0, 0)) := by rw [hW]; exact two_second w _ _
  have hux2 := hux.below (exD_mono d) hbW
  obtain ⟨xb, xo, _, e9, -, -, -⟩ := hux2.headN
  subst e9
  obtain ⟨c0, c1, c2, m0, m1, m2, b0, b1, b2, x0, x1, x2, hxd, p0, p1, p2, p3, p4, p5⟩ := ex_at hux2 (i := 0) rfl
  obtain ⟨d0, d1, d2, r0, r1, r2, f0, f1, f2, v0, v1, v2, hyd, y0, y1, y2, y3, y4, y5⟩ := ex_at hux2 (i := 1) rfl
  rw [Nat.zero_mul, Nat.add_zero] at p0 p1 p2 p3 p4 p5
  rw [Nat.one_mul] at y0 y1 y2 y3 y4 y5
  obtain ⟨⟨a0, a1⟩, -⟩ := bx2 hb1
  obtain ⟨⟨-, -, -, -, -, z5⟩, -⟩ := bx6 hb2
  have HS : Hid (∀ W', Below W.heap.size W W' → (W'.cell? ⟨w.heap.size, 0, none⟩ = some (.slice av nv cv) ∧ W'.cell? ⟨w.heap.size, 1, none⟩ = some (.int .i64 now) ∧ W'.cell? ⟨w.heap.size + 1, 5, none⟩ = some (.slice (some ⟨xb, xo, none⟩) 2 cx)) ∧ (W'.cell? ⟨xb, xo, none⟩ = some (.int .i64 c0) ∧ W'.cell? ⟨xb, xo + 1, none⟩ = some (.int .i64 c1) ∧ W'.cell? ⟨xb, xo + 2, none⟩ = some (.int .i64 c2) ∧ W'.cell? ⟨xb, xo + 3, none⟩ = some (.slice m0 m1 m2) ∧ W'.cell? ⟨xb, xo + 4, none⟩ = some (.slice b0 b1 b2) ∧ W'.cell? ⟨xb, xo + 5, none⟩ = some (.slice x0 x1 x2)) ∧ (W'.cell? ⟨xb, xo + 6, none⟩ = some (.int .i64 d0) ∧ W'.cell? ⟨xb, xo + 6 + 1, none⟩ = some (.int .i64 d1) ∧ W'.cell? ⟨xb, xo + 6 + 2, none⟩ = some (.int .i64 d2) ∧ W'.cell? ⟨xb, xo + 6 + 3, none⟩ = some (.slice r0 r1 r2) ∧ W'.cell? ⟨xb, xo + 6 + 4, none⟩ = some (.slice f0 f1 f2) ∧ W'.cell? ⟨xb, xo + 6 + 5, none⟩ = some (.slice v0 v1 v2))) := Lib.hid (fun W' hb =>
    ⟨⟨(hb.cell (p := ⟨_, 0, none⟩) (cell_lt a0)).trans a0, (hb.cell (p := ⟨_, 1, none⟩) (cell_lt a1)).trans a1, (hb.cell (p := ⟨_, 5, none⟩) (cell_lt z5)).trans z5⟩, ⟨(hb.cell (p := ⟨_, _, none⟩) (cell_lt p0)).trans p0, (hb.cell (p := ⟨_, _, none⟩) (cell_lt p1)).trans p1, (hb.cell (p := ⟨_, _, none⟩) (cell_lt p2)).trans p2, (hb.cell (p := ⟨_, _, none⟩) (cell_lt p3)).trans p3, (hb.cell (p := ⟨_, _, none⟩) (cell_lt p4)).trans p4, (hb.cell (p := ⟨_, _, none⟩) (cell_lt p5)).trans p5⟩,
      ⟨(hb.cell (p := ⟨_, _, none⟩) (cell_lt y0)).trans y0, (hb.cell (p := ⟨_, _, none⟩) (cell_lt y1)).trans y1, (hb.cell (p := ⟨_, _, none⟩) (cell_lt y2)).trans y2, (hb.cell (p := ⟨_, _, none⟩) (cell_lt y3)).trans y3, (hb.cell (p := ⟨_, _, none⟩) (cell_lt y4)).trans y4, (hb.cell (p := ⟨_, _, none⟩) (cell_lt y5)).trans y5⟩⟩)
  have HD0 := Lib.hid (Below.refl W.heap.size W).drew
  have q0 := HS.out _ HD0.out
  have HEX := Lib.hid (hevx W.drew _ _ _ _ _ _ (hbW.trans (HD0.out.mono hbW.size)) (exD_mono d _ _ _ _ hxd HD0.out))
  have HEY := Lib.hid (fun W2 (hb : Below W.heap.size W W2) => hevy W2 _ _ _ _ _ _ (hbW.trans (hb.mono hbW.size)) (exD_mono d _ _ _ _ hyd hb))
  have HT := Lib.hid (hT.below hbW)
  have HX2 := Lib.hid hb2
  have HBW := Lib.hid hbW
  have HSZ := Lib.hid hsz
  have HGL := Lib.hid hGL
  have HGM := Lib.hid hGM
  have HLL := Lib.hid (And.intro hlL hlM)
  clear hux hux2 hxd hyd p0 p1 p2 p3 p4 p5 y0 y1 y2 y3 y4 y5 a0 a1 z5 hb1 hb2 hbW hsz hGL hGM hlL hlM hT hevx hevy
  go_enter Tryz.func80, Tryz.ntmps80
  go_upto_region 1 with (fail)
  rw [← hW]
  clear hW
  generalize hbx : w.heap.size = bx at *
  go_region_held3 (fun W' => (W'.cell? ⟨bx, 0, none⟩ = some (.slice av nv cv) ∧ W'.cell? ⟨bx, 1, none⟩ = some (.int .i64 now) ∧ W'.cell? ⟨bx + 1, 5, none⟩ = some (.slice (some ⟨xb, xo, none⟩) 2 cx)) ∧ (W'.cell? ⟨xb, xo, none⟩ = some (.int .i64 c0) ∧ W'.cell? ⟨xb, xo + 1, none⟩ = some (.int .i64 c1) ∧ W'.cell? ⟨xb, xo + 2, none⟩ = some (.int .i64 c2) ∧ W'.cell? ⟨xb, xo + 3, none⟩ = some (.slice m0 m1 m2) ∧ W'.cell? ⟨xb, xo + 4, none⟩ = some (.slice b0 b1 b2) ∧ W'.cell? ⟨xb, xo + 5, none⟩ = some (.slice x0 x1 x2)) ∧ (W'.cell? ⟨xb, xo + 6, none⟩ = some (.int .i64 d0) ∧ W'.cell? ⟨xb, xo + 6 + 1, none⟩ = some (.int .i64 d1) ∧ W'.cell? ⟨xb, xo + 6 + 2, none⟩ = some (.int .i64 d2) ∧ W'.cell? ⟨xb, xo + 6 + 3, none⟩ = some (.slice r0 r1 r2) ∧ W'.cell? ⟨xb, xo + 6 + 4, none⟩ = some (.slice f0 f1 f2) ∧ W'.cell? ⟨xb, xo + 6 + 5, none⟩ = some (.slice v0 v1 v2))) (first | (with_reducible exact q2) | (with_reducible exact q1) | (with_reducible exact q0) | go_keep) (first
    | (go_at_call 57; refine (HEY.out _ HB2.out).mono ?_; rintro e w3 ⟨t3, rfl, ho3, hb3⟩; have HO3 := Lib.hid ho3; have hb13 : Below W.heap.size W w3 := HB2.out.trans (hb3.mono HB2.out.size); have q2 := HS.out _ hb13; obtain ⟨o3, k3, rfl, -, -⟩ := ho3.shape; have HB3 := Lib.hid hb13; have HO23 := Lib.hid (HO2.out.below (rwO_mono _) hb3); clear ho3 hb3 hb13)
    | (go_at_call 57; refine HEX.out.mono ?_; rintro e w2 ⟨t2, rfl, ho2, hb2⟩; have HO2 := Lib.hid ho2; have hb12 : Below W.heap.size W w2 := HD0.out.trans (hb2.mono HD0.out.size); have q1 := HS.out _ hb12; obtain ⟨o2, k2, rfl, -, -⟩ := ho2.shape; have HB2 := Lib.hid hb12; clear ho2 hb2 hb12))
  clear q0 q1 q2
  obtain ⟨nL, hnL⟩ : ∃ n, L.length = n := ⟨_, rfl⟩
  obtain ⟨nM, hnM⟩ : ∃ n, M.length = n := ⟨_, rfl⟩
  rw [hnL] at HO2 HO23 ⊢
  rw [hnM] at HO3 ⊢
  have hlL : nL ≤ 1000 := by rw [← hnL]; exact HLL.out.1
  have hlM : nM ≤ 1000 := by rw [← hnM]; exact HLL.out.2
  have HNL0 := Lib.hid hnL
  have HNM0 := Lib.hid hnM
  clear hnL hnM
  obtain ⟨aL, hAL⟩ : ∃ a, aloneS L = a := ⟨_, rfl⟩
  obtain ⟨aM, hAM⟩ : ∃ a, aloneS M = a := ⟨_, rfl⟩
  have HPR : Hid (prsF k L M = L.flatMap (fun y => M.filterMap (prP k aL aM y))) := Lib.hid (by unfold prsF; rw [hAL, hAM])
  have HAL := Lib.hid hAL
  have HAM := Lib.hid hAM
  clear hAL hAM
  have HX3 := Lib.hid ((HB3.out.block (bx + 1) (Array.getElem?_eq_some_iff.1 HX2.out).1).trans HX2.out)
  have HT3 := Lib.hid (HT.out.below HB3.out)
  have H00 : Hid (RowsAt w3.heap.size w3 ((L.take 0).flatMap (fun y => M.filterMap (prP k aL aM y))) (.slice none 0 0) w3) := Lib.hid ⟨Ow.nil, Below.refl _ _, Nat.le_refl _⟩
  have hBsz : bx ≤ w3.heap.size := by have := HB3.out.size; rw [HSZ.out] at this; omega
  have HBB : Hid (Below w.heap.size w w3) := Lib.hid (by rw [hbx]; exact HBW.out.trans (HB3.out.mono (by rw [HSZ.out]; omega)))
  go_wp2_with fail
  go_loopw [7, 26] (fun o i wr => ∃ i' : Nat, i' ≤ nL ∧ i = .int .i64 i' ∧ Hid (RowsAt w3.heap.size w3 ((L.take i').flatMap (fun y => M.filterMap (prP k aL aM y))) o wr)) (fun _ i _ => nL - (intOf i).toNat)
  case atStart => exact ⟨0, Nat.zero_le _, rfl, H00⟩
  case round =>
    obtain ⟨i, hi, rfl, HR⟩ := hrel
    by_cases hlt : i < nL
    case neg =>
      obtain rfl : i = nL := by omega
      have HE : Hid (RsP w (prsF k L M) (.returned u7) wr) := Lib.hid (by
        obtain ⟨h1, h2, h3⟩ := HR.out
        rw [List.take_of_length_le (by rw [HNL0.out]; exact Nat.le_refl _), ← HPR.out] at h1
        exact ⟨u7, rfl, rows_low h1 (by rw [hbx]; exact hBsz), HBB.out.trans (h2.mono (by rw [hbx]; exact hBsz))⟩)
      go_wp2_with fail
      go_ret
      exact HE.out
    obtain ⟨ry, hry⟩ : ∃ r, L[i]? = some r := ⟨_, List.getElem?_eq_getElem (by rw [HNL0.out]; exact hlt)⟩
    obtain ⟨Ly, Vy⟩ := ry
    have HBL := Lib.hid HR.out.2.1
    have hss := HO23.out.sp.below (rwO_mono _) HBL.out
    obtain ⟨lb, lo, cs, e8, ⟨t, rfl, ht⟩, -, hcell⟩ := hss.get hry
    obtain rfl := e8
    obtain ⟨ya, yc, rfl, -, -⟩ := ht.shape
    obtain ⟨yl, hyl⟩ : ∃ n, Ly.length = n := ⟨_, rfl⟩
    have hL0 := HGL.out _ (List.mem_of_getElem? hry)
    simp only at ht hcell hL0
    rw [hyl] at ht hcell
    have r0 := hcell 0 _ rfl
    have r1 := hcell 1 _ rfl
    have r2 := hcell 2 _ rfl
    rw [Nat.add_zero] at r0
    obtain ⟨Sy, hSy⟩ : ∃ K, mkS (kyL Ly) = K := ⟨_, rfl⟩
    rw [hSy] at r0
    have HSY := Lib.hid hSy
    obtain ⟨wb, hwb⟩ : ∃ wb, wb = wr.alloc (.cells #[.string Sy, .slice ya yl yc, .int .i64 Vy] 98) := ⟨_, rfl⟩
    have hBB : Below wr.heap.size wr wb := by rw [hwb]; exact (Below.refl _ wr).alloc (Nat.le_refl _) _
    have hsb : wb.heap[wr.heap.size]? = some (.cells #[.string Sy, .slice ya yl yc, .int .i64 Vy] 98 (0, 0)) := by rw [hwb]; exact heap_alloc_new wr _
    have HYW := Lib.hid (ht.sp)
    have HYW0 := Lib.hid hL0
    have hoy : u7.ownBlock ≠ some wr.heap.size := fun e => by
      obtain ⟨P, -, -, -, h4⟩ := HR.out.1
      have := (h4.lt _ e).2
      omega
    have HPB : Hid (PrAt w3.heap.size w3 ((L.take i).flatMap (fun y => M.filterMap (prP k aL aM y)) ++ (M.take 0).filterMap (prP k aL aM (Ly, Vy))) u7 wr.heap.size #[.string Sy, .slice ya yl yc, .int .i64 Vy] wb) := Lib.hid (by
      rw [List.take_zero, List.filterMap_nil, List.append_nil]
      exact ⟨HR.out.below hBB, hsb, hoy⟩)
    have HRY := Lib.hid hry
    have HIN : Hid (∀ W', Below w3.heap.size w3 W' → Sp LbR 2 W' (.slice ya yl yc) Ly) := Lib.hid (fun W' hb => by
      obtain ⟨b', off', cs', e7, ⟨t', e6, ht'⟩, -, -⟩ := (HO23.out.sp).get hry
      have hc1 := hcell
      obtain ⟨b2, off2, cs2, e5, ⟨t2, e4, ht2⟩, -, hcell2⟩ := (HO23.out.sp.below (rwO_mono _) HBL.out).get hry
      have hcw := (HO23.out.sp).get hry
      obtain ⟨b3, off3, cs3, e3, ⟨t3, e2, ht3⟩, -, hcell3⟩ := hcw
      subst e2
      have q1 := hcell3 1 _ rfl
      simp at e3
      obtain ⟨rfl, rfl⟩ := e3
      have q2 := (HBL.out.cell (p := ⟨_, _, none⟩) (cell_lt q1)).trans q1
      rw [q2] at r1
      have e1 : t3 = .slice ya yl yc := by simpa using r1
      rw [e1] at ht3
      exact ht3.sp.below lbR_mono hb)
    have hi0 : (0 : Int) ≤ (i : Int) := by omega
    have hi1 : (i : Int) < (nL : Int) := by omega
    clear hss hcell ht hry hsb hL0 hyl hSy hoy HYW
    go_upto_region 6 with (fail)
    rw [← hwb]
    clear hwb hBB r0 r1 r2
    generalize hby : wr.heap.size = yb at *
    obtain ⟨wo, hwo⟩ : ∃ wo, wo = wr := ⟨_, rfl⟩
    clear HR HBL hwo hby
    go_wp2_with fail
    go_loopw [7, 32] (fun o q wr => ∃ j : Nat, j ≤ nM ∧ q = .int .i64 j ∧ Hid (PrAt w3.heap.size w3 ((L.take i).flatMap (fun y => M.filterMap (prP k aL aM y)) ++ (M.take j).filterMap (prP k aL aM (Ly, Vy))) o yb #[.string Sy, .slice ya yl yc, .int .i64 Vy] wr)) (fun _ q _ => nM - (intOf q).toNat)
    case atStart => exact ⟨0, Nat.zero_le _, rfl, HPB⟩
    case round =>
    obtain ⟨j, hj, rfl, HP⟩ := hrel
    by_cases hltj : j < nM
    case neg =>
      obtain rfl : j = nM := by omega
      have HR9 : Hid (RowsAt w3.heap.size w3 ((L.take (i + 1)).flatMap (fun y => M.filterMap (prP k aL aM y))) u7 wr) := Lib.hid (by
        rw [fl_step HRY.out]
        have h := HP.out.1
        rwa [List.take_of_length_le (l := M) (by rw [HNM0.out]; exact Nat.le_refl _)] at h)
      go_wp2_with fail
      go_roundw
      case rel => exact ⟨i + 1, by omega, by go_num, HR9⟩
      case measure => simp [intOf]; omega
    obtain ⟨rz, hrz⟩ : ∃ r, M[j]? = some r := ⟨_, List.getElem?_eq_getElem (by rw [HNM0.out]; exact hltj)⟩
    obtain ⟨Lz, Vz⟩ := rz
    have HBL := Lib.hid HP.out.1.2.1
    obtain ⟨lb2, lo2, cs, e8, ⟨t, rfl, ht⟩, -, hcell⟩ := (HO3.out.sp.below (rwO_mono _) HBL.out).get hrz
    obtain rfl := e8
    obtain ⟨za, zc, rfl, -, -⟩ := ht.shape
    obtain ⟨zl, hzl⟩ : ∃ n, Lz.length = n := ⟨_, rfl⟩
    have hL0 := HGM.out _ (List.mem_of_getElem? hrz)
    simp only at ht hcell hL0
    rw [hzl] at ht hcell
    have r0 := hcell 0 _ rfl
    have r1 := hcell 1 _ rfl
    have r2 := hcell 2 _ rfl
    rw [Nat.add_zero] at r0
    obtain ⟨Sz, hSz⟩ : ∃ K, mkS (kyL Lz) = K := ⟨_, rfl⟩
    rw [hSz] at r0
    obtain ⟨U, hU⟩ : ∃ U, (L.take i).flatMap (fun y => M.filterMap (prP k aL aM y)) ++ (M.take j).filterMap (prP k aL aM (Ly, Vy)) = U := ⟨_, rfl⟩
    have hUl : U.length ≤ 1001000 := by
      rw [← hU]
      have h1 := pr_len k aL aM L M i j (Ly, Vy)
      have h2 : L.length * M.length ≤ 1000 * 1000 := Nat.mul_le_mul HLL.out.1 HLL.out.2
      have h3 := HLL.out.2
      omega
    rw [hU] at HP
    have HUU := Lib.hid hU
    obtain ⟨ul, hul⟩ : ∃ n, U.length = n := ⟨_, rfl⟩
    rw [hul] at hUl
    have HUN := Lib.hid hul
    obtain ⟨uo, uc, hu7, -, -⟩ := HP.out.1.1.sp.shapeN hul
    subst hu7
    obtain ⟨wz, hwz⟩ : ∃ wz, wz = wr.alloc (.cells #[.string Sz, .slice za zl zc, .int .i64 Vz] 98) := ⟨_, rfl⟩
    have hBB : Below wr.heap.size wr wz := by rw [hwz]; exact (Below.refl _ wr).alloc (Nat.le_refl _) _
    have hsz : wz.heap[wr.heap.size]? = some (.cells #[.string Sz, .slice za zl zc, .int .i64 Vz] 98 (0, 0)) := by rw [hwz]; exact heap_alloc_new wr _
    have hyz := (hBB.block yb (Array.getElem?_eq_some_iff.1 HP.out.2.1).1).trans HP.out.2.1
    have HRz := Lib.hid (HP.out.1.below hBB)
    have hxz := (HRz.out.2.1.block (bx + 1) (Array.getElem?_eq_some_iff.1 HX3.out).1).trans HX3.out
    have HYB := Lib.hid hyz
    have HYL := Lib.hid (Array.getElem?_eq_some_iff.1 hyz).1
    have HNY := Lib.hid HP.out.2.2
    have hown : ∃ P : List (Rw × List Value), wr.ownsRow w3.heap.size 98 3 (.slice uo ul uc) U.length (pc P) := by
      obtain ⟨P, -, -, -, h4⟩ := HP.out.1.1
      exact ⟨P, h4⟩
    have HNX : Hid ((Value.slice uo ul uc).ownBlock ≠ some (bx + 1)) := Lib.hid (fun e => by
      obtain ⟨P, h4⟩ := hown
      have h1 := (h4.lt _ e).1
      have h2 := (Array.getElem?_eq_some_iff.1 HX3.out).1
      omega)
    have HNZ : Hid ((Value.slice uo ul uc).ownBlock ≠ some wr.heap.size) := Lib.hid (fun e => by
      obtain ⟨P, h4⟩ := hown
      have h1 := (h4.lt _ e).2
      omega)
    have HTz := Lib.hid (HT3.out.below HRz.out.2.1)
    have HYS := Lib.hid (HIN.out wz HRz.out.2.1)
    have HYS0 := HYW0
    have HZS := Lib.hid ((ht.sp).below lbR_mono hBB)
    have HZS0 := Lib.hid hL0
    have HZJ : Hid ((M.take (j + 1)).filterMap (prP k aL aM (Ly, Vy)) = (M.take j).filterMap (prP k aL aM (Ly, Vy)) ++ [(Lz, Vz)].filterMap (prP k aL aM (Ly, Vy))) := Lib.hid (fm_step hrz)
    have HSM := Lib.hid (single_any _ M w2.heap.size wz (HO3.out.sp.below (rwO_mono _) HRz.out.2.1))
    have HSL := Lib.hid (single_any _ L W.drew.heap.size wz (HO23.out.sp.below (rwO_mono _) HRz.out.2.1))
    rw [HAM.out] at HSM
    rw [HAL.out] at HSL
    have HEQK : Hid ((Sy.toList == Sz.toList) = decide (kyL Ly = kyL Lz)) := Lib.hid (by
      rw [← HSY.out, ← hSz, mkS_list, mkS_list]
      by_cases h : kyL Ly = kyL Lz
      · rw [h]; simp
      · rw [decide_eq_false h]; exact beq_eq_false_iff_ne.2 h)
    have hj0 : (0 : Int) ≤ (j : Int) := by omega
    have hj1 : (j : Int) < (nM : Int) := by omega
    obtain ⟨⟨s0, s1, s2⟩, -⟩ := bx3 hyz
    obtain ⟨⟨g0, g1, g2⟩, -⟩ := bx3 hsz
    obtain ⟨⟨k0, -, -, -, -, -⟩, -⟩ := bx6 hxz
    have HBZ := Lib.hid hBB
    clear hcell ht hrz hL0 hzl hSz hU hul hyz hxz hown hsz HAM HAL hBB
    go_upto_region 9 with (fail)
    rw [← hwz]
    clear hwz r0 r1 r2
    generalize hbz : wr.heap.size = zb at *
    clear HP HBL
    by_cases ham : aM = true
    · subst ham
      go_upto_region 10 with (go_at_call 112; refine HSM.out.mono ?_; rintro e w9 ⟨rfl, rfl⟩)
      have HRFX := Lib.hid (fun Wx (n : Int) (hb : Below wz.heap.size wz Wx) => rowof_any (.slice ya yl yc) Ly n Wx (HYS.out.below lbR_mono hb) HYS0.out (HTz.out.below hb))
      have HRNX : Hid (RowsAt w3.heap.size w3 U (.slice uo ul uc) wz) := HRz
      obtain ⟨P, hP1, hP2, hP3, hrow⟩ := HRz.out.1
      rw [HUN.out] at hrow
      obtain ⟨nl, hnl⟩ : ∃ nl : List Rw, nl = U ++ [(Ly, bothK k Vy Vz)] := ⟨_, rfl⟩
      have HNL := Lib.hid hnl
      have HPP := Lib.hid (And.intro hP1 (And.intro hP2 hP3))
      have HROW := Lib.hid hrow
      obtain ⟨bb, hbb⟩ : ∃ b : Nat, b = yb := ⟨_, rfl⟩
      have HS : Hid (∀ W', Below wz.heap.size wz W' → W'.cell? ⟨yb, 1, none⟩ = some (.slice ya yl yc) ∧ W'.cell? ⟨bx + 1, 0, none⟩ = some (.int .i64 k) ∧ W'.cell? ⟨yb, 2, none⟩ = some (.int .i64 Vy) ∧ W'.cell? ⟨zb, 2, none⟩ = some (.int .i64 Vz)) := Lib.hid (fun W' hb => ⟨(hb.cell (p := ⟨_, 1, none⟩) (cell_lt s1)).trans s1, (hb.cell (p := ⟨_, 0, none⟩) (cell_lt k0)).trans k0, (hb.cell (p := ⟨_, 2, none⟩) (cell_lt s2)).trans s2, (hb.cell (p := ⟨_, 2, none⟩) (cell_lt g2)).trans g2⟩)
      have HS4 : Hid (∀ W3 W4, Below wz.heap.size wz W3 → W3.grownBy W4 (Value.slice uo ul uc).ownBlock → W4.cell? ⟨yb, 1, none⟩ = some (.slice ya yl yc) ∧ W4.cell? ⟨bx + 1, 0, none⟩ = some (.int .i64 k) ∧ W4.cell? ⟨yb, 2, none⟩ = some (.int .i64 Vy) ∧ W4.cell? ⟨zb, 2, none⟩ = some (.int .i64 Vz)) := Lib.hid (fun W3 W4 hb hg => by
        have hc := HS.out W3 hb
        exact ⟨hg.cell hc.1 (fun e => HNY.out e.symm), hg.cell hc.2.1 (fun e => HNX.out e.symm), hg.cell hc.2.2.1 (fun e => HNY.out e.symm), hg.cell hc.2.2.2 (fun e => HNZ.out e.symm)⟩)
      have HD0 := Lib.hid (Below.refl wz.heap.size wz).drew
      have q0 := HS.out _ HD0.out
      have HBT := Lib.hid (both_any k Vy Vz wz.drew)
      have h47 : (ul + 1) * 48 ≤ 140737488355328 := by omega
      have h63 : ul + 1 ≤ 9223372036854775807 := by omega
      obtain ⟨ZV, hZV⟩ : ∃ ZV, bothK k Vy Vz = ZV := ⟨_, rfl⟩
      rw [hZV] at HBT HNL
      have HZV := Lib.hid hZV
      clear hP1 hP2 hP3 hrow hnl hbb s0 s1 s2 g0 g1 g2 k0 hZV
      go_region_held3 (fun W' => W'.cell? ⟨yb, 1, none⟩ = some (.slice ya yl yc) ∧ W'.cell? ⟨bx + 1, 0, none⟩ = some (.int .i64 k) ∧ W'.cell? ⟨yb, 2, none⟩ = some (.int .i64 Vy) ∧ W'.cell? ⟨zb, 2, none⟩ = some (.int .i64 Vz)) (first | (with_reducible exact q3) | (with_reducible exact q1) | (with_reducible exact q0) | (with_reducible exact q2 _) | go_keep) (first
        | (refine step_app2 [.string (mkS (kyL Ly)), .slice o5 Ly.length k5, .int .i64 ZV] elRw rfl _ _ rfl hrow5 hbel5 (Nat.le_refl _) hsz5 rfl rfl rfl hone5 h47 h63 ?_; intro gn cap w6 hown6 hbel6 hgr6 hat6; have q3 := HS4.out _ _ HB5.out hgr6; have HZ6 := Lib.hid (And.intro hown6 (And.intro hbel6 (And.intro hgr6 hat6))); clear hown6 hbel6 hgr6 hat6)
        | (go_at_call 81; refine (HRFX.out _ ZV HD0.out).mono ?_; rintro e w5 ⟨t5, rfl, ho5, hb5⟩; obtain ⟨o5, k5, rfl, -, -⟩ := ho5.shape; have hb15 : Below wz.heap.size wz w5 := HD0.out.trans (hb5.mono HD0.out.size); have hrow5 := own_below HROW.out hb15; have hbel5 : Below w3.heap.size w3 w5 := HRNX.out.2.1.trans (hb15.mono HRNX.out.2.2); have hsz5 : w3.heap.size ≤ w5.heap.size := Nat.le_trans HRNX.out.2.2 hb15.size
           have hone5 : ∀ u ∈ [Value.string (mkS (kyL Ly)), Value.slice o5 Ly.length k5, Value.int .i64 ZV], u.oneCell' = true := by (intro u hu; simp at hu; rcases hu with rfl | rfl | rfl <;> rfl)
           have q1 := HS.out _ hb15; have q2 := fun o => HS.out (w5.alloc o) (hb15.alloc hb15.size o); have HB5 := Lib.hid hb15; have HO5 := Lib.hid ho5; clear hb15 ho5 hb5)
        | (go_at_call 113; refine HBT.out.mono ?_; rintro e w4 ⟨rfl, rfl⟩))
      all_goals
        have HR6 : Hid (PrAt w3.heap.size w3 ((L.take i).flatMap (fun y => M.filterMap (prP k aL true y)) ++ (M.take (j + 1)).filterMap (prP k aL true (Ly, Vy))) (.slice (some ⟨gn, 0, none⟩) (ul + 1) cap) yb #[.string Sy, .slice ya yl yc, .int .i64 Vy] w6) := Lib.hid (by
          have e9 : (L.take i).flatMap (fun y => M.filterMap (prP k aL true y)) ++ (M.take (j + 1)).filterMap (prP k aL true (Ly, Vy)) = nl := by
            rw [HNL.out, HZJ.out, ← HUU.out, ← List.append_assoc]
            congr 1
            show _ = [(_, _)]
            exact fm_one (by unfold prP; rw [if_pos rfl, ← HZV.out])
          rw [e9, HNL.out]
          obtain ⟨hown6, hbel6, hgr6, hat6⟩ := HZ6.out
          have h2 : ∀ q ∈ P, RwO w3.heap.size w5 q.1 q.2 := fun q hq => rwO_mono _ _ _ _ _ (HPP.out.2.2 q hq) HB5.out
          have h3 : RwO w3.heap.size w5 (Ly, ZV) [.string (mkS (kyL Ly)), .slice o5 Ly.length k5, .int .i64 ZV] := ⟨_, rfl, HO5.out.mono HRNX.out.2.2⟩
          have hyb5 := (HB5.out.block yb HYL.out).trans HYB.out
          refine ⟨⟨Ow.snoc (rw_grow _) HPP.out.1 HPP.out.2.1 h2 hrow5 HUN.out.symm hgr6 hown6 rfl h3, hbel6, Nat.le_trans hsz5 hgr6.size⟩, (hgr6.block yb (Array.getElem?_eq_some_iff.1 hyb5).1 (fun e => HNY.out e.symm)).trans hyb5, fun e => ?_⟩
          have e2 : gn = yb := by simpa [Value.ownBlock] using e
          rcases hat6 with h | h
          · exact HNY.out (by rw [← h, e2])
          · have := (Array.getElem?_eq_some_iff.1 hyb5).1
            omega)
        clear q0 q1 q2 q3 hrow5 hbel5 hsz5 hone5 HZ6
        go_wp2_with fail
        go_roundw
        case rel => exact ⟨j + 1, by omega, by go_num, HR6⟩
        case measure => simp [intOf]; omega
    · have ham : aM = false := by simpa using ham
      subst ham
      go_upto_region 11 with (go_at_call 112; refine HSM.out.mono ?_; rintro e w9 ⟨rfl, rfl⟩)
      by_cases hal : aL = true
      · subst hal
        go_upto_region 12 with (go_at_call 112; refine HSL.out.mono ?_; rintro e w9 ⟨rfl, rfl⟩)
        have HRFX := Lib.hid (fun Wx (n : Int) (hb : Below wz.heap.size wz Wx) => rowof_any (.slice za zl zc) Lz n Wx (HZS.out.below lbR_mono hb) HZS0.out (HTz.out.below hb))
        have HRNX : Hid (RowsAt w3.heap.size w3 U (.slice uo ul uc) wz) := HRz
        obtain ⟨P, hP1, hP2, hP3, hrow⟩ := HRz.out.1
        rw [HUN.out] at hrow
        obtain ⟨nl, hnl⟩ : ∃ nl : List Rw, nl = U ++ [(Lz, bothK k Vy Vz)] := ⟨_, rfl⟩
        have HNL := Lib.hid hnl
        have HPP := Lib.hid (And.intro hP1 (And.intro hP2 hP3))
        have HROW := Lib.hid hrow
        obtain ⟨bb, hbb⟩ : ∃ b : Nat, b = zb := ⟨_, rfl⟩
        have HS : Hid (∀ W', Below wz.heap.size wz W' → W'.cell? ⟨zb, 1, none⟩ = some (.slice za zl zc) ∧ W'.cell? ⟨bx + 1, 0, none⟩ = some (.int .i64 k) ∧ W'.cell? ⟨yb, 2, none⟩ = some (.int .i64 Vy) ∧ W'.cell? ⟨zb, 2, none⟩ = some (.int .i64 Vz)) := Lib.hid (fun W' hb => ⟨(hb.cell (p := ⟨_, 1, none⟩) (cell_lt g1)).trans g1, (hb.cell (p := ⟨_, 0, none⟩) (cell_lt k0)).trans k0, (hb.cell (p := ⟨_, 2, none⟩) (cell_lt s2)).trans s2, (hb.cell (p := ⟨_, 2, none⟩) (cell_lt g2)).trans g2⟩)
        have HS4 : Hid (∀ W3 W4, Below wz.heap.size wz W3 → W3.grownBy W4 (Value.slice uo ul uc).ownBlock → W4.cell? ⟨zb, 1, none⟩ = some (.slice za zl zc) ∧ W4.cell? ⟨bx + 1, 0, none⟩ = some (.int .i64 k) ∧ W4.cell? ⟨yb, 2, none⟩ = some (.int .i64 Vy) ∧ W4.cell? ⟨zb, 2, none⟩ = some (.int .i64 Vz)) := Lib.hid (fun W3 W4 hb hg => by
          have hc := HS.out W3 hb
          exact ⟨hg.cell hc.1 (fun e => HNZ.out e.symm), hg.cell hc.2.1 (fun e => HNX.out e.symm), hg.cell hc.2.2.1 (fun e => HNY.out e.symm), hg.cell hc.2.2.2 (fun e => HNZ.out e.symm)⟩)
        have HD0 := Lib.hid (Below.refl wz.heap.size wz).drew
        have q0 := HS.out _ HD0.out
        have HBT := Lib.hid (both_any k Vy Vz wz.drew)
        have h47 : (ul + 1) * 48 ≤ 140737488355328 := by omega
        have h63 : ul + 1 ≤ 9223372036854775807 := by omega
        obtain ⟨ZV, hZV⟩ : ∃ ZV, bothK k Vy Vz = ZV := ⟨_, rfl⟩
        rw [hZV] at HBT HNL
        have HZV := Lib.hid hZV
        clear hP1 hP2 hP3 hrow hnl hbb s0 s1 s2 g0 g1 g2 k0 hZV
        go_region_held3 (fun W' => W'.cell? ⟨zb, 1, none⟩ = some (.slice za zl zc) ∧ W'.cell? ⟨bx + 1, 0, none⟩ = some (.int .i64 k) ∧ W'.cell? ⟨yb, 2, none⟩ = some (.int .i64 Vy) ∧ W'.cell? ⟨zb, 2, none⟩ = some (.int .i64 Vz)) (first | (with_reducible exact q3) | (with_reducible exact q1) | (with_reducible exact q0) | (with_reducible exact q2 _) | go_keep) (first
          | (refine step_app2 [.string (mkS (kyL Lz)), .slice o5 Lz.length k5, .int .i64 ZV] elRw rfl _ _ rfl hrow5 hbel5 (Nat.le_refl _) hsz5 rfl rfl rfl hone5 h47 h63 ?_; intro gn cap w6 hown6 hbel6 hgr6 hat6; have q3 := HS4.out _ _ HB5.out hgr6; have HZ6 := Lib.hid (And.intro hown6 (And.intro hbel6 (And.intro hgr6 hat6))); clear hown6 hbel6 hgr6 hat6)
          | (go_at_call 81; refine (HRFX.out _ ZV HD0.out).mono ?_; rintro e w5 ⟨t5, rfl, ho5, hb5⟩; obtain ⟨o5, k5, rfl, -, -⟩ := ho5.shape; have hb15 : Below wz.heap.size wz w5 := HD0.out.trans (hb5.mono HD0.out.size); have hrow5 := own_below HROW.out hb15; have hbel5 : Below w3.heap.size w3 w5 := HRNX.out.2.1.trans (hb15.mono HRNX.out.2.2); have hsz5 : w3.heap.size ≤ w5.heap.size := Nat.le_trans HRNX.out.2.2 hb15.size
             have hone5 : ∀ u ∈ [Value.string (mkS (kyL Lz)), Value.slice o5 Lz.length k5, Value.int .i64 ZV], u.oneCell' = true := by (intro u hu; simp at hu; rcases hu with rfl | rfl | rfl <;> rfl)
             have q1 := HS.out _ hb15; have q2 := fun o => HS.out (w5.alloc o) (hb15.alloc hb15.size o); have HB5 := Lib.hid hb15; have HO5 := Lib.hid ho5; clear hb15 ho5 hb5)
          | (go_at_call 113; refine HBT.out.mono ?_; rintro e w4 ⟨rfl, rfl⟩))
        all_goals
          have HR6 : Hid (PrAt w3.heap.size w3 ((L.take i).flatMap (fun y => M.filterMap (prP k true false y)) ++ (M.take (j + 1)).filterMap (prP k true false (Ly, Vy))) (.slice (some ⟨gn, 0, none⟩) (ul + 1) cap) yb #[.string Sy, .slice ya yl yc, .int .i64 Vy] w6) := Lib.hid (by
            have e9 : (L.take i).flatMap (fun y => M.filterMap (prP k true false y)) ++ (M.take (j + 1)).filterMap (prP k true false (Ly, Vy)) = nl := by
              rw [HNL.out, HZJ.out, ← HUU.out, ← List.append_assoc]
              congr 1
              show _ = [(_, _)]
              exact fm_one (by unfold prP; rw [if_neg (by decide), if_pos rfl, ← HZV.out])
            rw [e9, HNL.out]
            obtain ⟨hown6, hbel6, hgr6, hat6⟩ := HZ6.out
            have h2 : ∀ q ∈ P, RwO w3.heap.size w5 q.1 q.2 := fun q hq => rwO_mono _ _ _ _ _ (HPP.out.2.2 q hq) HB5.out
            have h3 : RwO w3.heap.size w5 (Lz, ZV) [.string (mkS (kyL Lz)), .slice o5 Lz.length k5, .int .i64 ZV] := ⟨_, rfl, HO5.out.mono HRNX.out.2.2⟩
            have hyb5 := (HB5.out.block yb HYL.out).trans HYB.out
            refine ⟨⟨Ow.snoc (rw_grow _) HPP.out.1 HPP.out.2.1 h2 hrow5 HUN.out.symm hgr6 hown6 rfl h3, hbel6, Nat.le_trans hsz5 hgr6.size⟩, (hgr6.block yb (Array.getElem?_eq_some_iff.1 hyb5).1 (fun e => HNY.out e.symm)).trans hyb5, fun e => ?_⟩
            have e2 : gn = yb := by simpa [Value.ownBlock] using e
            rcases hat6 with h | h
            · exact HNY.out (by rw [← h, e2])
            · have := (Array.getElem?_eq_some_iff.1 hyb5).1
              omega)
          clear q0 q1 q2 q3 hrow5 hbel5 hsz5 hone5 HZ6
          go_wp2_with fail
          go_roundw
          case rel => exact ⟨j + 1, by omega, by go_num, HR6⟩
          case measure => simp [intOf]; omega
      · have hal : aL = false := by simpa using hal
        subst hal
        go_upto_region 13 with (go_at_call 112; refine HSL.out.mono ?_; rintro e w9 ⟨rfl, rfl⟩)
        by_cases heq : kyL Ly = kyL Lz
        · have t1 : (Sy.toList == Sz.toList) = true := by rw [HEQK.out]; exact decide_eq_true heq
          have HEQ := Lib.hid heq
          clear heq
          go_upto_region 14 with (fail)
          clear t1
          have HRFX := Lib.hid (fun Wx (n : Int) (hb : Below wz.heap.size wz Wx) => rowof_any (.slice ya yl yc) Ly n Wx (HYS.out.below lbR_mono hb) HYS0.out (HTz.out.below hb))
          have HRNX : Hid (RowsAt w3.heap.size w3 U (.slice uo ul uc) wz) := HRz
          obtain ⟨P, hP1, hP2, hP3, hrow⟩ := HRz.out.1
          rw [HUN.out] at hrow
          obtain ⟨nl, hnl⟩ : ∃ nl : List Rw, nl = U ++ [(Ly, bothK k Vy Vz)] := ⟨_, rfl⟩
          have HNL := Lib.hid hnl
          have HPP := Lib.hid (And.intro hP1 (And.intro hP2 hP3))
          have HROW := Lib.hid hrow
          obtain ⟨bb, hbb⟩ : ∃ b : Nat, b = yb := ⟨_, rfl⟩
          have HS : Hid (∀ W', Below wz.heap.size wz W' → W'.cell? ⟨yb, 1, none⟩ = some (.slice ya yl yc) ∧ W'.cell? ⟨bx + 1, 0, none⟩ = some (.int .i64 k) ∧ W'.cell? ⟨yb, 2, none⟩ = some (.int .i64 Vy) ∧ W'.cell? ⟨zb, 2, none⟩ = some (.int .i64 Vz)) := Lib.hid (fun W' hb => ⟨(hb.cell (p := ⟨_, 1, none⟩) (cell_lt s1)).trans s1, (hb.cell (p := ⟨_, 0, none⟩) (cell_lt k0)).trans k0, (hb.cell (p := ⟨_, 2, none⟩) (cell_lt s2)).trans s2, (hb.cell (p := ⟨_, 2, none⟩) (cell_lt g2)).trans g2⟩)
          have HS4 : Hid (∀ W3 W4, Below wz.heap.size wz W3 → W3.grownBy W4 (Value.slice uo ul uc).ownBlock → W4.cell? ⟨yb, 1, none⟩ = some (.slice ya yl yc) ∧ W4.cell? ⟨bx + 1, 0, none⟩ = some (.int .i64 k) ∧ W4.cell? ⟨yb, 2, none⟩ = some (.int .i64 Vy) ∧ W4.cell? ⟨zb, 2, none⟩ = some (.int .i64 Vz)) := Lib.hid (fun W3 W4 hb hg => by
            have hc := HS.out W3 hb
            exact ⟨hg.cell hc.1 (fun e => HNY.out e.symm), hg.cell hc.2.1 (fun e => HNX.out e.symm), hg.cell hc.2.2.1 (fun e => HNY.out e.symm), hg.cell hc.2.2.2 (fun e => HNZ.out e.symm)⟩)
          have HD0 := Lib.hid (Below.refl wz.heap.size wz).drew
          have q0 := HS.out _ HD0.out
          have HBT := Lib.hid (both_any k Vy Vz wz.drew)
          have h47 : (ul + 1) * 48 ≤ 140737488355328 := by omega
          have h63 : ul + 1 ≤ 9223372036854775807 := by omega
          obtain ⟨ZV, hZV⟩ : ∃ ZV, bothK k Vy Vz = ZV := ⟨_, rfl⟩
          rw [hZV] at HBT HNL
          have HZV := Lib.hid hZV
          clear hP1 hP2 hP3 hrow hnl hbb s0 s1 s2 g0 g1 g2 k0 hZV
          go_region_held3 (fun W' => W'.cell? ⟨yb, 1, none⟩ = some (.slice ya yl yc) ∧ W'.cell? ⟨bx + 1, 0, none⟩ = some (.int .i64 k) ∧ W'.cell? ⟨yb, 2, none⟩ = some (.int .i64 Vy) ∧ W'.cell? ⟨zb, 2, none⟩ = some (.int .i64 Vz)) (first | (with_reducible exact q3) | (with_reducible exact q1) | (with_reducible exact q0) | (with_reducible exact q2 _) | go_keep) (first
            | (refine step_app2 [.string (mkS (kyL Ly)), .slice o5 Ly.length k5, .int .i64 ZV] elRw rfl _ _ rfl hrow5 hbel5 (Nat.le_refl _) hsz5 rfl rfl rfl hone5 h47 h63 ?_; intro gn cap w6 hown6 hbel6 hgr6 hat6; have q3 := HS4.out _ _ HB5.out hgr6; have HZ6 := Lib.hid (And.intro hown6 (And.intro hbel6 (And.intro hgr6 hat6))); clear hown6 hbel6 hgr6 hat6)
            | (go_at_call 81; refine (HRFX.out _ ZV HD0.out).mono ?_; rintro e w5 ⟨t5, rfl, ho5, hb5⟩; obtain ⟨o5, k5, rfl, -, -⟩ := ho5.shape; have hb15 : Below wz.heap.size wz w5 := HD0.out.trans (hb5.mono HD0.out.size); have hrow5 := own_below HROW.out hb15; have hbel5 : Below w3.heap.size w3 w5 := HRNX.out.2.1.trans (hb15.mono HRNX.out.2.2); have hsz5 : w3.heap.size ≤ w5.heap.size := Nat.le_trans HRNX.out.2.2 hb15.size
               have hone5 : ∀ u ∈ [Value.string (mkS (kyL Ly)), Value.slice o5 Ly.length k5, Value.int .i64 ZV], u.oneCell' = true := by (intro u hu; simp at hu; rcases hu with rfl | rfl | rfl <;> rfl)
               have q1 := HS.out _ hb15; have q2 := fun o => HS.out (w5.alloc o) (hb15.alloc hb15.size o); have HB5 := Lib.hid hb15; have HO5 := Lib.hid ho5; clear hb15 ho5 hb5)
            | (go_at_call 113; refine HBT.out.mono ?_; rintro e w4 ⟨rfl, rfl⟩))
          all_goals
            have HR6 : Hid (PrAt w3.heap.size w3 ((L.take i).flatMap (fun y => M.filterMap (prP k false false y)) ++ (M.take (j + 1)).filterMap (prP k false false (Ly, Vy))) (.slice (some ⟨gn, 0, none⟩) (ul + 1) cap) yb #[.string Sy, .slice ya yl yc, .int .i64 Vy] w6) := Lib.hid (by
              have e9 : (L.take i).flatMap (fun y => M.filterMap (prP k false false y)) ++ (M.take (j + 1)).filterMap (prP k false false (Ly, Vy)) = nl := by
                rw [HNL.out, HZJ.out, ← HUU.out, ← List.append_assoc]
                congr 1
                show _ = [(_, _)]
                exact fm_one (by unfold prP; rw [if_neg (by decide), if_neg (by decide), if_pos HEQ.out, ← HZV.out])
              rw [e9, HNL.out]
              obtain ⟨hown6, hbel6, hgr6, hat6⟩ := HZ6.out
              have h2 : ∀ q ∈ P, RwO w3.heap.size w5 q.1 q.2 := fun q hq => rwO_mono _ _ _ _ _ (HPP.out.2.2 q hq) HB5.out
              have h3 : RwO w3.heap.size w5 (Ly, ZV) [.string (mkS (kyL Ly)), .slice o5 Ly.length k5, .int .i64 ZV] := ⟨_, rfl, HO5.out.mono HRNX.out.2.2⟩
              have hyb5 := (HB5.out.block yb HYL.out).trans HYB.out
              refine ⟨⟨Ow.snoc (rw_grow _) HPP.out.1 HPP.out.2.1 h2 hrow5 HUN.out.symm hgr6 hown6 rfl h3, hbel6, Nat.le_trans hsz5 hgr6.size⟩, (hgr6.block yb (Array.getElem?_eq_some_iff.1 hyb5).1 (fun e => HNY.out e.symm)).trans hyb5, fun e => ?_⟩
              have e2 : gn = yb := by simpa [Value.ownBlock] using e
              rcases hat6 with h | h
              · exact HNY.out (by rw [← h, e2])
              · have := (Array.getElem?_eq_some_iff.1 hyb5).1
                omega)
            clear q0 q1 q2 q3 hrow5 hbel5 hsz5 hone5 HZ6
            go_wp2_with fail
            go_roundw
            case rel => exact ⟨j + 1, by omega, by go_num, HR6⟩
            case measure => simp [intOf]; omega
        · have t1 : (Sy.toList == Sz.toList) = false := by rw [HEQK.out]; exact decide_eq_false heq
          have HR6 : Hid (PrAt w3.heap.size w3 ((L.take i).flatMap (fun y => M.filterMap (prP k false false y)) ++ (M.take (j + 1)).filterMap (prP k false false (Ly, Vy))) (.slice uo ul uc) yb #[.string Sy, .slice ya yl yc, .int .i64 Vy] wz) := Lib.hid (by
            have e9 : (L.take i).flatMap (fun y => M.filterMap (prP k false false y)) ++ (M.take (j + 1)).filterMap (prP k false false (Ly, Vy)) = U := by
              rw [HZJ.out, fm_none (by unfold prP; rw [if_neg (by decide), if_neg (by decide), if_neg heq]), List.append_nil]
              exact HUU.out
            rw [e9]
            exact ⟨HRz.out, HYB.out, HNY.out⟩)
          clear heq
          go_wp2_with fail
          go_roundw
          case rel => exact ⟨j + 1, by omega, by go_num, HR6⟩
          case measure => simp [intOf]; omega
end Go.Proofs.YtjmplhkdohlbcaaGreatDoor.Evl
/-
  Contracts of the library at this program, laid by the kit's own tool (in plain words).
-/
namespace Go.Proofs
open Go.Shelf
def YtjmplhkdohlbcaaGreatDoor.laysSortRw_ren : Go.Shelf.Ren := ⟨fun | 6 => 83 | 15 => 116 | 14 => 115 | 28 => 147 | 29 => 148 | 20 => 139 | 21 => 140 | 22 => 141 | 23 => 142 | 24 => 143 | 25 => 144 | 26 => 145 | 27 => 146 | 46 => 166 | 47 => 167 | 48 => 168 | 49 => 169 | 50 => 170 | 57 => 189 | n => n, fun | 22 => 91 | 24 => 98 | 25 => 128 | 3 => 3 | 39 => 165 | 0 => 0 | 53 => 173 | 55 => 104 | 4 => 4 | 46 => 200 | 45 => 199 | 50 => 204 | 5 => 5 | 9 => 9 | 66 => 218 | 70 => 222 | 76 => 250 | 77 => 251 | n => n, fun | n => n⟩
theorem YtjmplhkdohlbcaaGreatDoor.laysSortRw : Go.Proofs.SlLaysF0.n6 Tryz.prog YtjmplhkdohlbcaaGreatDoor.laysSortRw_ren := {
  mixed := by kernel_rfl
  f6 := ⟨Tryz.f83.name, by decide, Tryz.func83.trans (congrArg some (by kernel_rfl))⟩
  f14 := ⟨Tryz.f115.name, by decide, Tryz.func115.trans (congrArg some (by kernel_rfl))⟩
  f15 := Tryz.func116.trans (congrArg some (by kernel_rfl))
  f20 := ⟨Tryz.f139.name, by decide, Tryz.func139.trans (congrArg some (by kernel_rfl))⟩
  f21 := ⟨Tryz.f140.name, by decide, Tryz.func140.trans (congrArg some (by kernel_rfl))⟩
  f22 := ⟨Tryz.f141.name, by decide, Tryz.func141.trans (congrArg some (by kernel_rfl))⟩
  f23 := ⟨Tryz.f142.name, by decide, Tryz.func142.trans (congrArg some (by kernel_rfl))⟩
  f24 := ⟨Tryz.f143.name, by decide, Tryz.func143.trans (congrArg some (by kernel_rfl))⟩
  f25 := ⟨Tryz.f144.name, by decide, Tryz.func144.trans (congrArg some (by kernel_rfl))⟩
  f26 := ⟨Tryz.f145.name, by decide, Tryz.func145.trans (congrArg some (by kernel_rfl))⟩
  f27 := ⟨Tryz.f146.name, by decide, Tryz.func146.trans (congrArg some (by kernel_rfl))⟩
  f28 := Tryz.func147.trans (congrArg some (by kernel_rfl))
  f29 := Tryz.func148.trans (congrArg some (by kernel_rfl))
  f46 := ⟨Tryz.f166.name, by decide, Tryz.func166.trans (congrArg some (by kernel_rfl))⟩
  f47 := Tryz.func167.trans (congrArg some (by kernel_rfl))
  f48 := Tryz.func168.trans (congrArg some (by kernel_rfl))
  f49 := ⟨Tryz.f169.name, by decide, Tryz.func169.trans (congrArg some (by kernel_rfl))⟩
  f50 := ⟨Tryz.f170.name, by decide, Tryz.func170.trans (congrArg some (by kernel_rfl))⟩
  f57 := ⟨Tryz.f189.name, by decide, Tryz.func189.trans (congrArg some (by kernel_rfl))⟩
  t0 := Tryz.underlying0
  a0 := Tryz.isAgg0
  z0 := Tryz.sizeOf0
  v0 := Tryz.zeroValue0
  t3 := Tryz.underlying3
  a3 := Tryz.isAgg3
  z3 := Tryz.sizeOf3
  v3 := Tryz.zeroValue3
  t4 := Tryz.underlying4
  a4 := Tryz.isAgg4
  z4 := Tryz.sizeOf4
  v4 := Tryz.zeroValue4
  t5 := Tryz.underlying5
  a5 := Tryz.isAgg5
  z5 := Tryz.sizeOf5
  v5 := Tryz.zeroValue5
  t9 := Tryz.underlying9
  a9 := Tryz.isAgg9
  z9 := Tryz.sizeOf9
  v9 := Tryz.zeroValue9
  t22 := Tryz.underlying91
  a22 := Tryz.isAgg91
  z22 := Tryz.sizeOf91
  v22 := Tryz.zeroValue91
  t25 := Tryz.underlying128
  a25 := Tryz.isAgg128
  z25 := Tryz.sizeOf128
  v25 := Tryz.zeroValue128
  t39 := Tryz.underlying165
  a39 := Tryz.isAgg165
  z39 := Tryz.sizeOf165
  v39 := Tryz.zeroValue165
  t45 := Tryz.underlying199
  a45 := Tryz.isAgg199
  z45 := Tryz.sizeOf199
  v45 := Tryz.zeroValue199
  t46 := Tryz.underlying200
  a46 := Tryz.isAgg200
  z46 := Tryz.sizeOf200
  v46 := Tryz.zeroValue200
  t50 := Tryz.underlying204
  a50 := Tryz.isAgg204
  z50 := Tryz.sizeOf204
  v50 := Tryz.zeroValue204
  t53 := Tryz.underlying173
  a53 := Tryz.isAgg173
  z53 := Tryz.sizeOf173
  v53 := Tryz.zeroValue173
  t55 := Tryz.underlying104
  a55 := Tryz.isAgg104
  z55 := Tryz.sizeOf104
  v55 := Tryz.zeroValue104
  t66 := Tryz.underlying218
  a66 := Tryz.isAgg218
  z66 := Tryz.sizeOf218
  v66 := Tryz.zeroValue218
  t70 := Tryz.underlying222
  a70 := Tryz.isAgg222
  z70 := Tryz.sizeOf222
  v70 := Tryz.zeroValue222
  t76 := Tryz.underlying250
  a76 := Tryz.isAgg250
  z76 := Tryz.sizeOf250
  v76 := Tryz.zeroValue250
  t77 := Tryz.underlying251
  a77 := Tryz.isAgg251
  z77 := Tryz.sizeOf251
  v77 := Tryz.zeroValue251 }
end Go.Proofs
/-
  Contracts of the library at this program, laid by the kit's own tool (in plain words).
-/
namespace Go.Proofs
open Go.Shelf
def YtjmplhkdohlbcaaGreatDoor.lays106_ren : Go.Shelf.Ren := ⟨fun | 106 => 85 | 213 => 117 | 265 => 149 | n => n, fun | 9 => 9 | 3 => 3 | n => n, fun | n => n⟩
theorem YtjmplhkdohlbcaaGreatDoor.lays106 : Go.Proofs.Lays.n106 Tryz.prog YtjmplhkdohlbcaaGreatDoor.lays106_ren := {
  mixed := by kernel_rfl
  f106 := Tryz.func85.trans (congrArg some (by kernel_rfl))
  f213 := Tryz.func117.trans (congrArg some (by kernel_rfl))
  f265 := Tryz.func149.trans (congrArg some (by kernel_rfl))
  t3 := Tryz.underlying3
  a3 := Tryz.isAgg3
  z3 := Tryz.sizeOf3
  v3 := Tryz.zeroValue3
  t9 := Tryz.underlying9
  a9 := Tryz.isAgg9
  z9 := Tryz.sizeOf9
  v9 := Tryz.zeroValue9 }
open Go.RowKit in
theorem YtjmplhkdohlbcaaGreatDoor.strings_Compare (a b : ByteArray) (w : World) :
    Calls Tryz.prog 85 #[.string a, .string b] w fun e w' => e = .returned (.int .i64 (Lib.compareBytes a.data.toList b.data.toList)) ∧ w' = w := Any.strings_Compare YtjmplhkdohlbcaaGreatDoor.lays106 a b w
end Go.Proofs
