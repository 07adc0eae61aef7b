/-
  Asked: the walks of the pairs (PRINTED by mkev13.py).
-/
import Derived.Test.YtjmplhkdohlbcaaGreatDoorEz19
import Derived.Deep.QuietTactic
import Derived.BigQuiet
namespace Go.Proofs.YtjmplhkdohlbcaaGreatDoor.Evl
open Go.RowKit Go.Gh Go.Gh.Clr Go.WideShapes Go.Proofs.YtjmplhkdohlbcaaGreatDoor.Lab Go.Proofs.YtjmplhkdohlbcaaGreatDoor.Exp
set_option linter.unusedVariables false
set_option linter.unusedSimpArgs false
theorem prR_lab {k : Int} {a b : Bool} {y z r : Rw} (h : prR k a b y z = some r) : r.1 = y.1 ∨ r.1 = z.1 := by
  unfold prR at h
  split at h
  · simp at h; exact Or.inl (by rw [← h])
  · split at h
    · simp at h; exact Or.inr (by rw [← h])
    · split at h
      · simp at h; exact Or.inr (by rw [← h])
      · simp at h
theorem prs_fine {k : Int} {a b : Bool} {L M : List Rw} (hL : Gd L) (hM : Gd M) : ∀ (P : List Rw), (∀ r ∈ P, labelF r.1 = 0) → FineN P.length (P.foldl (fun o r => moreF sec r o) []) := by
  intro P hP
  have h : ∀ j, j ≤ P.length → FineN j ((P.take j).foldl (fun o r => moreF sec r o) []) := by
    intro j
    induction j with
    | zero => exact fun _ => ⟨asc_nil, fun x hx => by simp at hx, Nat.le_refl _⟩
    | succ j ih =>
      intro hj
      rw [fold_step (f := fun o r => moreF sec r o) (List.getElem?_eq_getElem (show j < P.length by omega))]
      exact mo_fine (ih (by omega)) (hP _ (List.getElem_mem _))
  have := h P.length (Nat.le_refl _)
  rwa [List.take_of_length_le (Nat.le_refl _)] at this
/-- The rows that the pairs gave so far. -/
def pfx (k : Int) (a b : Bool) (L M : List Rw) (i j : Nat) (y : Rw) : List Rw := (L.take i).flatMap (fun y => M.filterMap (prR k a b y)) ++ (M.take j).filterMap (prR k a b y)
theorem pfx_len (k : Int) (a b : Bool) (L M : List Rw) (i j : Nat) (y : Rw) : (pfx k a b L M i j y).length ≤ L.length * M.length + M.length := by
  unfold pfx
  rw [List.length_append]
  have h1 := flat_le (f := fun y => M.filterMap (prR k a b y)) (c := M.length) (L := L.take i) (fun y _ => List.length_filterMap_le _ _)
  have h2 : ((M.take j).filterMap (prR k a b y)).length ≤ (M.take j).length := List.length_filterMap_le _ _
  have h3 : (M.take j).length ≤ M.length := by rw [List.length_take]; omega
  have h4 : (L.take i).length * M.length ≤ L.length * M.length := Nat.mul_le_mul_right _ (by rw [List.length_take]; omega)
  omega
theorem pfx_gd {k : Int} {a b : Bool} {L M : List Rw} {i j : Nat} {y : Rw} (hL : Gd L) (hM : Gd M) (hy : labelF y.1 = 0) : ∀ r ∈ pfx k a b L M i j y, labelF r.1 = 0 := by
  intro r hr
  rcases List.mem_append.1 hr with hr | hr
  · obtain ⟨x, hx, hr⟩ := List.mem_flatMap.1 hr
    obtain ⟨z, hz, e⟩ := List.mem_filterMap.1 hr
    rcases prR_lab e with h | h
    · rw [h]; exact hL x (List.mem_of_mem_take hx)
    · rw [h]; exact hM z hz
  · obtain ⟨z, hz, e⟩ := List.mem_filterMap.1 hr
    rcases prR_lab e with h | h
    · rw [h]; exact hy
    · rw [h]; exact hM z (List.mem_of_mem_take hz)
theorem pfx_step {k : Int} {a b : Bool} {L M : List Rw} {i j : Nat} {y z : Rw} (h : M[j]? = some z) : pfx k a b L M i (j + 1) y = pfx k a b L M i j y ++ [z].filterMap (prR k a b y) := by
  unfold pfx
  rw [fm_step h, List.append_assoc]
theorem pfx_end {k : Int} {a b : Bool} {L M : List Rw} {i : Nat} {y y' : Rw} (h : L[i]? = some y) : pfx k a b L M i M.length y = pfx k a b L M (i + 1) 0 y' := by
  unfold pfx
  rw [fl_step h, List.take_of_length_le (Nat.le_refl _), List.take_zero, List.filterMap_nil, List.append_nil]
theorem pfx_zero {k : Int} {a b : Bool} {L M : List Rw} {i : Nat} {y : Rw} : pfx k a b L M i 0 y = (L.take i).flatMap fun y => M.filterMap (prR k a b y) := by
  unfold pfx
  rw [List.take_zero, List.filterMap_nil, List.append_nil]
abbrev foldS (P : List Rw) : List Rw := P.foldl (fun o r => moreF sec r o) []
theorem foldS_snoc (P : List Rw) (r : Rw) : foldS (P ++ [r]) = moreF sec r (foldS P) := by
  unfold foldS
  rw [List.foldl_append]
  rfl
set_option maxHeartbeats 32000000 in
set_option maxRecDepth 100000 in
theorem asked_pr6 (L M : List Rw) (x y : Ex) (d : Nat) (now k1 wd : Int) (um ub ux v : Value) (w : World)
    (hux : Sp (ExD d) 6 w ux [x, y]) (hum : ∃ a n c, um = .slice a n c) (hub : ∃ a n c, ub = .slice a n c) (hvv : ∃ a n c, v = .slice a n c)
    (hGL : ∀ r ∈ L, labelF r.1 = 0) (hlL : L.length ≤ 200) (hGM : ∀ r ∈ M, labelF r.1 = 0) (hlM : M.length ≤ 200)
    (hevx : ∀ W c0 c1 c2 c3 c4 c5, Below w.heap.size w W → ExD d W x [c0, c1, c2, c3, c4, c5] → Calls Tryz.prog 32 #[.agg #[c0, c1, c2, c3, c4, c5], v, .int .i64 now] W (AsP W L))
    (hevy : ∀ W c0 c1 c2 c3 c4 c5, Below w.heap.size w W → ExD d W y [c0, c1, c2, c3, c4, c5] → Calls Tryz.prog 32 #[.agg #[c0, c1, c2, c3, c4, c5], v, .int .i64 now] W (AsP W M)) :
    Calls Tryz.prog 32 #[.agg #[.int .i64 6, .int .i64 k1, .int .i64 wd, um, ub, ux], v, .int .i64 now] w (AsP w (foldS (prsR 6 L M))) := by
  obtain ⟨av, nv, cv, rfl⟩ := hvv
  obtain ⟨am, nm, cm, rfl⟩ := hum
  obtain ⟨ab, nb, cb, rfl⟩ := hub
  obtain ⟨ax, cx, rfl, -, -⟩ := hux.shapeN (show [x, y].length = 2 from rfl)
  obtain ⟨W, hW, hbox, hbW, hsa⟩ := box_ex w (.int .i64 6) (.int .i64 k1) (.int .i64 wd) (.slice am nm cm) (.slice ab nb cb) (.slice ax 2 cx)
  have hux2 := hux.below (exD_mono d) hbW
  obtain ⟨xb, xo, _, e9, -, -, -⟩ := hux2.headN
  subst e9
  obtain ⟨c0, c1, c2, m0, m1, m2, b0, b1, b2, x0, x1, x2, hxd, p0, p1, p2, p3, p4, p5⟩ := ex_at hux2 (i := 0) rfl
  obtain ⟨d0, d1, d2, r0, r1, r2, f0, f1, f2, v0, v1, v2, hyd, y0, y1, y2, y3, y4, y5⟩ := ex_at hux2 (i := 1) rfl
  rw [Nat.zero_mul, Nat.add_zero] at p0 p1 p2 p3 p4 p5
  rw [Nat.one_mul] at y0 y1 y2 y3 y4 y5
  obtain ⟨⟨z0, -, -, -, -, z5⟩, -⟩ := bx6 hbox
  have HS : Hid (∀ W', Below W.heap.size W W' → W'.cell? ⟨w.heap.size, 5, none⟩ = some (.slice (some ⟨xb, xo, none⟩) 2 cx) ∧ (W'.cell? ⟨xb, xo, none⟩ = some (.int .i64 c0) ∧ W'.cell? ⟨xb, xo + 1, none⟩ = some (.int .i64 c1) ∧ W'.cell? ⟨xb, xo + 2, none⟩ = some (.int .i64 c2) ∧ W'.cell? ⟨xb, xo + 3, none⟩ = some (.slice m0 m1 m2) ∧ W'.cell? ⟨xb, xo + 4, none⟩ = some (.slice b0 b1 b2) ∧ W'.cell? ⟨xb, xo + 5, none⟩ = some (.slice x0 x1 x2)) ∧ (W'.cell? ⟨xb, xo + 6, none⟩ = some (.int .i64 d0) ∧ W'.cell? ⟨xb, xo + 6 + 1, none⟩ = some (.int .i64 d1) ∧ W'.cell? ⟨xb, xo + 6 + 2, none⟩ = some (.int .i64 d2) ∧ W'.cell? ⟨xb, xo + 6 + 3, none⟩ = some (.slice r0 r1 r2) ∧ W'.cell? ⟨xb, xo + 6 + 4, none⟩ = some (.slice f0 f1 f2) ∧ W'.cell? ⟨xb, xo + 6 + 5, none⟩ = some (.slice v0 v1 v2))) := Lib.hid (fun W' hb =>
    ⟨(hb.cell (p := ⟨_, 5, none⟩) (cell_lt z5)).trans z5, ⟨(hb.cell (p := ⟨_, _, none⟩) (cell_lt p0)).trans p0, (hb.cell (p := ⟨_, _, none⟩) (cell_lt p1)).trans p1, (hb.cell (p := ⟨_, _, none⟩) (cell_lt p2)).trans p2, (hb.cell (p := ⟨_, _, none⟩) (cell_lt p3)).trans p3, (hb.cell (p := ⟨_, _, none⟩) (cell_lt p4)).trans p4, (hb.cell (p := ⟨_, _, none⟩) (cell_lt p5)).trans p5⟩,
      ⟨(hb.cell (p := ⟨_, _, none⟩) (cell_lt y0)).trans y0, (hb.cell (p := ⟨_, _, none⟩) (cell_lt y1)).trans y1, (hb.cell (p := ⟨_, _, none⟩) (cell_lt y2)).trans y2, (hb.cell (p := ⟨_, _, none⟩) (cell_lt y3)).trans y3, (hb.cell (p := ⟨_, _, none⟩) (cell_lt y4)).trans y4, (hb.cell (p := ⟨_, _, none⟩) (cell_lt y5)).trans y5⟩⟩)
  have HD0 := Lib.hid (Below.refl W.heap.size W).drew
  have q0 := HS.out _ HD0.out
  have hsz : w.heap.size ≤ W.heap.size := hbW.size
  have HEX := Lib.hid (hevx W.drew _ _ _ _ _ _ (hbW.trans (HD0.out.mono hbW.size)) (exD_mono d _ _ _ _ hxd HD0.out))
  have HEY := Lib.hid (fun W2 (hb : Below W.heap.size W W2) => hevy W2 _ _ _ _ _ _ (hbW.trans (hb.mono hbW.size)) (exD_mono d _ _ _ _ hyd hb))
  have HX2 := Lib.hid hbox
  have HBW := Lib.hid hbW
  have HGL := Lib.hid hGL
  have HGM := Lib.hid hGM
  have HWW := Lib.hid hW
  obtain ⟨nL, hnL⟩ : ∃ n, L.length = n := ⟨_, rfl⟩
  obtain ⟨nM, hnM⟩ : ∃ n, M.length = n := ⟨_, rfl⟩
  rw [hnL] at hlL
  rw [hnM] at hlM
  have HNL := Lib.hid hnL
  have HNM := Lib.hid hnM
  clear hux hux2 hxd hyd p0 p1 p2 p3 p4 p5 y0 y1 y2 y3 y4 y5 z5 hbox hbW hGL hGM hevx hevy hW hsa hnL hnM
  go_enter Tryz.func32, Tryz.ntmps32
  go_upto_region 3 with (fail)
  rw [← HWW.out]
  generalize hbx : w.heap.size = bx at *
  go_upto_region 42 with (fail)
  clear z0
  go_region_held3 (fun W' => W'.cell? ⟨bx, 5, none⟩ = some (.slice (some ⟨xb, xo, none⟩) 2 cx) ∧ (W'.cell? ⟨xb, xo, none⟩ = some (.int .i64 c0) ∧ W'.cell? ⟨xb, xo + 1, none⟩ = some (.int .i64 c1) ∧ W'.cell? ⟨xb, xo + 2, none⟩ = some (.int .i64 c2) ∧ W'.cell? ⟨xb, xo + 3, none⟩ = some (.slice m0 m1 m2) ∧ W'.cell? ⟨xb, xo + 4, none⟩ = some (.slice b0 b1 b2) ∧ W'.cell? ⟨xb, xo + 5, none⟩ = some (.slice x0 x1 x2)) ∧ (W'.cell? ⟨xb, xo + 6, none⟩ = some (.int .i64 d0) ∧ W'.cell? ⟨xb, xo + 6 + 1, none⟩ = some (.int .i64 d1) ∧ W'.cell? ⟨xb, xo + 6 + 2, none⟩ = some (.int .i64 d2) ∧ W'.cell? ⟨xb, xo + 6 + 3, none⟩ = some (.slice r0 r1 r2) ∧ W'.cell? ⟨xb, xo + 6 + 4, none⟩ = some (.slice f0 f1 f2) ∧ W'.cell? ⟨xb, xo + 6 + 5, none⟩ = some (.slice v0 v1 v2))) (first | (with_reducible exact q2) | (with_reducible exact q1) | (with_reducible exact q0) | go_keep) (first
    | (go_at_call 32; refine (HEY.out _ HB2.out).mono ?_; rintro e w3 ⟨t3, rfl, ho3, hb3⟩; have HO3 := Lib.hid ho3; have hb13 : Below W.heap.size W w3 := HB2.out.trans (hb3.mono HB2.out.size); have q2 := HS.out _ hb13; obtain ⟨o3, k3, rfl, -, -⟩ := ho3.shapeN HNM.out; have HB3 := Lib.hid hb13; have HO23 := Lib.hid (HO2.out.below rdR_mono hb3); clear ho3 hb3 hb13)
    | (go_at_call 32; refine HEX.out.mono ?_; rintro e w2 ⟨t2, rfl, ho2, hb2⟩; have HO2 := Lib.hid ho2; have hb12 : Below W.heap.size W w2 := HD0.out.trans (hb2.mono HD0.out.size); have q1 := HS.out _ hb12; obtain ⟨o2, k2, rfl, -, -⟩ := ho2.shapeN HNL.out; have HB2 := Lib.hid hb12; clear ho2 hb2 hb12))
  clear q0 q1 q2
  obtain ⟨aL, hAL⟩ : ∃ a, aloneS L = a := ⟨_, rfl⟩
  obtain ⟨aM, hAM⟩ : ∃ a, aloneS M = a := ⟨_, rfl⟩
  have HPR : Hid (prsR 6 L M = L.flatMap (fun y => M.filterMap (prR 6 aL aM y))) := Lib.hid (by unfold prsR; rw [hAL, hAM])
  have HAL := Lib.hid hAL
  have HAM := Lib.hid hAM
  clear hAL hAM
  have HX3 := Lib.hid ((HB3.out.block bx (Array.getElem?_eq_some_iff.1 HX2.out).1).trans HX2.out)
  have HBB : Hid (Below w.heap.size w w3) := Lib.hid (by rw [hbx]; exact HBW.out.trans (HB3.out.mono hsz))
  have H00 : Hid (AsAt w (foldS (pfx 6 aL aM L M 0 0 ([], 0))) (.slice none 0 0) w3) := Lib.hid ⟨Sp.nil, HBB.out⟩
  go_wp2_with fail
  go_loopw [7, 152] (fun o i wr => ∃ i' : Nat, i' ≤ nL ∧ i = .int .i64 i' ∧ Hid (AsAt w (foldS (pfx 6 aL aM L M i' 0 ([], 0))) o wr) ∧ Hid (Below w3.heap.size w3 wr)) (fun _ i _ => nL - (intOf i).toNat)
  case atStart => exact ⟨0, Nat.zero_le _, rfl, H00, Lib.hid (Below.refl _ _)⟩
  case round =>
  obtain ⟨i, hi, rfl, HR, HB⟩ := hrel
  by_cases hlt : i < nL
  case neg =>
    obtain rfl : i = nL := by omega
    have HE : Hid (AsP w (foldS (prsR 6 L M)) (.returned u7) wr) := Lib.hid (by
      have h := HR.out
      rw [pfx_zero, List.take_of_length_le (by rw [HNL.out]; exact Nat.le_refl _), ← HPR.out] at h
      exact ⟨u7, rfl, h.1, h.2⟩)
    go_wp2_with fail
    go_ret
    exact HE.out
  obtain ⟨ry, hry⟩ : ∃ r, L[i]? = some r := ⟨_, List.getElem?_eq_getElem (by rw [HNL.out]; exact hlt)⟩
  obtain ⟨Ly, Vy⟩ := ry
  obtain ⟨lb, lo, cs, e8, ⟨t, rfl, ht⟩, -, hcell⟩ := (HO23.out.below rdR_mono HB.out).get hry
  obtain rfl := e8
  simp only at ht hcell
  obtain ⟨yl, hyl⟩ : ∃ n, Ly.length = n := ⟨_, rfl⟩
  obtain ⟨ya, yc, rfl, -, -⟩ := ht.shapeN hyl
  have hL0 : labelF Ly = 0 := HGL.out _ (List.mem_of_getElem? hry)
  have g0 := hcell 0 _ rfl
  have g1 := hcell 1 _ rfl
  rw [Nat.add_zero] at g0
  obtain ⟨wb, hwb⟩ : ∃ wb, wb = wr.alloc (.cells #[.slice ya yl yc, .int .i64 Vy] 96) := ⟨_, rfl⟩
  have hBB : Below wr.heap.size wr wb := by rw [hwb]; exact (Below.refl _ wr).alloc (Nat.le_refl _) _
  have hsb : wb.heap[wr.heap.size]? = some (.cells #[.slice ya yl yc, .int .i64 Vy] 96 (0, 0)) := by rw [hwb]; exact heap_alloc_new wr _
  have HRY := Lib.hid hry
  have HYS0 := Lib.hid hL0
  have HYS1 := Lib.hid (ht.below lbR_mono hBB)
  have HYB := Lib.hid hsb
  have HBb := Lib.hid (HB.out.trans (hBB.mono HB.out.size))
  have HPB : Hid (AsAt w (foldS (pfx 6 aL aM L M i 0 (Ly, Vy))) u7 wb) := Lib.hid (by
    have h := HR.out.below hBB
    rw [pfx_zero] at h ⊢
    exact h)
  have hi0 : (0 : Int) ≤ (i : Int) := by omega
  have hi1 : (i : Int) < (nL : Int) := by omega
  clear hcell ht hry hsb hL0 hyl
  go_upto_region 47 with (fail)
  rw [← hwb]
  clear hwb hBB g0 g1
  generalize hby : wr.heap.size = yb at *
  clear HR HB
  go_wp2_with fail
  go_loopw [7, 158] (fun o q wr => ∃ j : Nat, j ≤ nM ∧ q = .int .i64 j ∧ Hid (AsAt w (foldS (pfx 6 aL aM L M i j (Ly, Vy))) o wr) ∧ Hid (Below wb.heap.size wb wr)) (fun _ q _ => nM - (intOf q).toNat)
  case atStart => exact ⟨0, Nat.zero_le _, rfl, HPB, Lib.hid (Below.refl _ _)⟩
  case round =>
  obtain ⟨j, hj, rfl, HP, HBI⟩ := hrel
  by_cases hltj : j < nM
  case neg =>
    obtain rfl : j = nM := by omega
    have HR9 : Hid (AsAt w (foldS (pfx 6 aL aM L M (i + 1) 0 ([], 0))) u7 wr) := Lib.hid (by
      have h := HP.out
      rw [← HNM.out, pfx_end (y' := ([], 0)) HRY.out] at h
      exact h)
    have HB9 := Lib.hid (HBb.out.trans (HBI.out.mono HBb.out.size))
    go_wp2_with fail
    go_roundw
    case rel => exact ⟨i + 1, by omega, by go_num, HR9, HB9⟩
    case measure => simp [intOf]; omega
  obtain ⟨rz, hrz⟩ : ∃ r, M[j]? = some r := ⟨_, List.getElem?_eq_getElem (by rw [HNM.out]; exact hltj)⟩
  obtain ⟨Lz, Vz⟩ := rz
  obtain ⟨lb2, lo2, cs, e8, ⟨t, rfl, ht⟩, -, hcell⟩ := ((HO3.out.below rdR_mono HBb.out).below rdR_mono HBI.out).get hrz
  obtain rfl := e8
  simp only at ht hcell
  obtain ⟨zl, hzl⟩ : ∃ n, Lz.length = n := ⟨_, rfl⟩
  obtain ⟨za, zc, rfl, -, -⟩ := ht.shapeN hzl
  have hL0 : labelF Lz = 0 := HGM.out _ (List.mem_of_getElem? hrz)
  have g0 := hcell 0 _ rfl
  have g1 := hcell 1 _ rfl
  rw [Nat.add_zero] at g0
  have HZJ := Lib.hid (pfx_step (k := 6) (a := aL) (b := aM) (L := L) (i := i) (y := (Ly, Vy)) hrz)
  obtain ⟨Pf, hPf⟩ : ∃ U, pfx 6 aL aM L M i j (Ly, Vy) = U := ⟨_, rfl⟩
  have hPl : Pf.length ≤ 40200 := by
    rw [← hPf]
    have h1 := pfx_len 6 aL aM L M i j (Ly, Vy)
    have h2 : L.length * M.length ≤ 200 * 200 := Nat.mul_le_mul (by rw [HNL.out]; exact hlL) (by rw [HNM.out]; exact hlM)
    have h3 := HNM.out
    omega
  have HPL := Lib.hid hPl
  have HFN : Hid (FineN Pf.length (foldS Pf)) := Lib.hid (by
    refine prs_fine (k := 6) (a := aL) (b := aM) (L := L) (M := M) HGL.out HGM.out Pf ?_
    rw [← hPf]
    exact pfx_gd HGL.out HGM.out HYS0.out)
  rw [hPf] at HP HZJ
  obtain ⟨wz, hwz⟩ : ∃ wz, wz = wr.alloc (.cells #[.slice za zl zc, .int .i64 Vz] 96) := ⟨_, rfl⟩
  have hBB : Below wr.heap.size wr wz := by rw [hwz]; exact (Below.refl _ wr).alloc (Nat.le_refl _) _
  have hsz2 : wz.heap[wr.heap.size]? = some (.cells #[.slice za zl zc, .int .i64 Vz] 96 (0, 0)) := by rw [hwz]; exact heap_alloc_new wr _
  have HRz := Lib.hid (HP.out.below hBB)
  have HBz := Lib.hid (HBI.out.trans (hBB.mono HBI.out.size))
  have hyz := (HBz.out.block yb (Array.getElem?_eq_some_iff.1 HYB.out).1).trans HYB.out
  have hxz := ((HBb.out.trans (HBz.out.mono HBb.out.size)).block bx (Array.getElem?_eq_some_iff.1 HX3.out).1).trans HX3.out
  have HYS := Lib.hid (HYS1.out.below lbR_mono HBz.out)
  have HZS := Lib.hid (ht.below lbR_mono hBB)
  have HZS0 := Lib.hid hL0
  have HSM := Lib.hid (alone_any _ M wz ((HO3.out.below rdR_mono HBb.out).below rdR_mono HBz.out))
  have HSL := Lib.hid (fun W (hb : Below wz.heap.size wz W) => alone_any _ L W (((HO23.out.below rdR_mono HBb.out).below rdR_mono HBz.out).below rdR_mono hb))
  rw [HAM.out] at HSM
  rw [HAL.out] at HSL
  have HSL2 : Hid (∀ W, Below wz.heap.size wz W → Calls Tryz.prog 62 #[.slice (some ⟨lb, lo, none⟩) nL k2] W fun e W' => e = .returned (.bool aL) ∧ W' = W) := Lib.hid (fun W hb => (HSL.out W hb).mono fun e W' h => ⟨h.1, h.2.symm⟩)
  have HTY := Lib.hid (fun W (hb : Below wz.heap.size wz W) => lbtext_any _ Ly W (HYS.out.below lbR_mono hb) HYS0.out)
  have HTZ := Lib.hid (fun W (hb : Below wz.heap.size wz W) => lbtext_any _ Lz W (HZS.out.below lbR_mono hb) hL0)
  have hj0 : (0 : Int) ≤ (j : Int) := by omega
  have hj1 : (j : Int) < (nM : Int) := by omega
  have HYZ := Lib.hid hyz
  have HZZ := Lib.hid hsz2
  have HXZ := Lib.hid hxz
  have HWQ : Hid (Below wz.heap.size wz wz) := Lib.hid (Below.refl _ _)
  obtain ⟨⟨s0, s1⟩, -⟩ := bx2 hyz
  obtain ⟨⟨h0, h1⟩, -⟩ := bx2 hsz2
  obtain ⟨⟨k0, -, -, -, -, -⟩, -⟩ := bx6 hxz
  clear hcell ht hrz hL0 hzl hPf hPl hyz hxz hsz2 hBB
  go_upto_region 50 with (fail)
  rw [← hwz]
  clear hwz g0 g1
  generalize hbz : wr.heap.size = zb at *
  clear HP HBI
  by_cases ham : aM = true
  · subst ham
    go_upto_region 54 with (go_at_call 62; refine HSM.out.mono ?_; rintro e w9 ⟨rfl, rfl⟩)
    have HMO := Lib.hid (fun W (z : Int) (hb : Below wz.heap.size wz W) => more1_any (foldS Pf) Ly z u7 _ W ((HRz.out.below hb).1) (HYS.out.below lbR_mono hb) HFN.out.gd HYS0.out (by have := HFN.out.len; have := HPL.out; omega))
    have HRX : Hid (∀ (z : Int) (v : Value) (w' : World), z = bothK 6 Vy Vz → AsAt w (moreF sec (Ly, z) (foldS Pf)) v w' → AsAt w (foldS (pfx 6 aL true L M i (j + 1) (Ly, Vy))) v w') := Lib.hid (fun z v w' hz h => by
      have e : [((Lz, Vz) : Rw)].filterMap (prR 6 aL true (Ly, Vy)) = [(Ly, z)] := fm_one (by unfold prR; rw [if_pos rfl, hz])
      rw [HZJ.out, e, foldS_snoc]
      exact h)
    go_wp2_with (first
      | (go_at_call 63; refine (EvT.times_any _ _ (EvT.u64_bd _).1 (EvT.u64_bd _).2 (EvT.u64_bd _).1 (EvT.u64_bd _).2 _).mono ?_; rintro e w4 ⟨rfl, rfl⟩)
      | (go_at_call 60; refine (HMO.out _ _ HWQ.out).mono ?_; intro e w5 hP; obtain ⟨v5, rfl, ha5, hb5⟩ := hP.as (HRz.out.below HWQ.out).2; have HA5 := Lib.hid (And.intro ha5 hb5); clear hP ha5 hb5))
    have HR5 := Lib.hid (HRX.out _ v5 w5 (by unfold bothK; rw [if_pos rfl, IntWalk.i64_left]) HA5.out.1)
    have HB5 := Lib.hid (HBz.out.trans ((HWQ.out.trans (HA5.out.2.mono HWQ.out.size)).mono HBz.out.size))
    go_roundw
    case rel => exact ⟨j + 1, by omega, by go_num, HR5, HB5⟩
    case measure => simp [intOf]; omega
  · have ham : aM = false := by simpa using ham
    subst ham
    go_upto_region 53 with (go_at_call 62; refine HSM.out.mono ?_; rintro e w9 ⟨rfl, rfl⟩)
    have HC : Hid (∀ W, Below wz.heap.size wz W → W.cell? ⟨yb, 0, none⟩ = some (.slice ya yl yc) ∧ W.cell? ⟨zb, 0, none⟩ = some (.slice za zl zc)) := Lib.hid (fun W hb => ⟨(hb.cell (p := ⟨_, _, none⟩) (cell_lt s0)).trans s0, (hb.cell (p := ⟨_, _, none⟩) (cell_lt h0)).trans h0⟩)
    have HD1 := Lib.hid (Below.refl wz.heap.size wz).drew
    have q0 := HC.out _ HD1.out
    by_cases hal : aL = true
    · subst hal
      clear s0 s1 h0 h1 k0
      clear q0
      have HSL3 := Lib.hid (fun q => HSL2.out (wz.drewN q) (below_drewN (Below.refl _ _) q))
      go_quiet ((go_at_call 62; refine Calls.quiet_of_same (HSL3.out _)))
      have HWQ : Hid (Below wz.heap.size wz (wz.drewN nq)) := Lib.hid (below_drewN (Below.refl _ _) _)
      obtain ⟨⟨s0, s1⟩, -⟩ := bx2 ((HWQ.out.block yb (Array.getElem?_eq_some_iff.1 HYZ.out).1).trans HYZ.out)
      obtain ⟨⟨h0, h1⟩, -⟩ := bx2 ((HWQ.out.block zb (Array.getElem?_eq_some_iff.1 HZZ.out).1).trans HZZ.out)
      obtain ⟨⟨k0, -, -, -, -, -⟩, -⟩ := bx6 ((HWQ.out.block bx (Array.getElem?_eq_some_iff.1 HXZ.out).1).trans HXZ.out)
      have HMO := Lib.hid (fun W (z : Int) (hb : Below wz.heap.size wz W) => more1_any (foldS Pf) Lz z u7 _ W ((HRz.out.below hb).1) (HZS.out.below lbR_mono hb) HFN.out.gd HZS0.out (by have := HFN.out.len; have := HPL.out; omega))
      have HRX : Hid (∀ (z : Int) (v : Value) (w' : World), z = bothK 6 Vy Vz → AsAt w (moreF sec (Lz, z) (foldS Pf)) v w' → AsAt w (foldS (pfx 6 true false L M i (j + 1) (Ly, Vy))) v w') := Lib.hid (fun z v w' hz h => by
        have e : [((Lz, Vz) : Rw)].filterMap (prR 6 true false (Ly, Vy)) = [(Lz, z)] := fm_one (by unfold prR; rw [if_neg (by decide), if_pos rfl, hz])
        rw [HZJ.out, e, foldS_snoc]
        exact h)
      go_wp2_with (first
        | (go_at_call 63; refine (EvT.times_any _ _ (EvT.u64_bd _).1 (EvT.u64_bd _).2 (EvT.u64_bd _).1 (EvT.u64_bd _).2 _).mono ?_; rintro e w4 ⟨rfl, rfl⟩)
        | (go_at_call 60; refine (HMO.out _ _ HWQ.out).mono ?_; intro e w5 hP; obtain ⟨v5, rfl, ha5, hb5⟩ := hP.as (HRz.out.below HWQ.out).2; have HA5 := Lib.hid (And.intro ha5 hb5); clear hP ha5 hb5))
      have HR5 := Lib.hid (HRX.out _ v5 w5 (by unfold bothK; rw [if_pos rfl, IntWalk.i64_left]) HA5.out.1)
      have HB5 := Lib.hid (HBz.out.trans ((HWQ.out.trans (HA5.out.2.mono HWQ.out.size)).mono HBz.out.size))
      go_roundw
      case rel => exact ⟨j + 1, by omega, by go_num, HR5, HB5⟩
      case measure => simp [intOf]; omega
    · have hal : aL = false := by simpa using hal
      subst hal
      obtain ⟨Ty, hTy⟩ : ∃ T, mkS (textM (asM Ly)) = T := ⟨_, rfl⟩
      obtain ⟨Tz, hTz⟩ : ∃ T, mkS (textM (asM Lz)) = T := ⟨_, rfl⟩
      rw [hTy] at HTY
      rw [hTz] at HTZ
      have hEQ : (Ty.toList == Tz.toList) = decide (kyL Ly = kyL Lz) := by
        rw [← hTy, ← hTz, mkS_list, mkS_list, eq_str]
        rfl
      obtain ⟨D, hD⟩ : ∃ D, decide (kyL Ly = kyL Lz) = D := ⟨_, rfl⟩
      rw [hD] at hEQ
      have HD := Lib.hid hD
      have HEQ := Lib.hid hEQ
      clear s0 s1 h0 h1 k0 hTy hTz hD hEQ
      go_region_held3 (fun W => W.cell? ⟨yb, 0, none⟩ = some (.slice ya yl yc) ∧ W.cell? ⟨zb, 0, none⟩ = some (.slice za zl zc)) (first | (with_reducible exact q2) | (with_reducible exact q1) | (with_reducible exact q0) | go_keep) (first
        | (go_at_call 62; refine (HSL.out _ HD1.out).mono ?_; rintro e w9 ⟨rfl, rfl⟩)
        | (go_at_call 12; refine (HTZ.out _ HT1.out).mono ?_; rintro e wt2 ⟨rfl, hbt2⟩; have hb12 : Below wz.heap.size wz wt2 := HT1.out.trans (hbt2.mono HT1.out.size); have q2 := HC.out _ hb12; have HT2 := Lib.hid hb12; clear hbt2 hb12)
        | (go_at_call 12; refine (HTY.out _ HD1.out).mono ?_; rintro e wt1 ⟨rfl, hbt1⟩; have hb11 : Below wz.heap.size wz wt1 := HD1.out.trans (hbt1.mono HD1.out.size); have q1 := HC.out _ hb11; have HT1 := Lib.hid hb11; clear hbt1 hb11))
      all_goals
        clear q0 q1 q2
        have HWQ := HT2
        obtain ⟨⟨s0, s1⟩, -⟩ := bx2 ((HWQ.out.block yb (Array.getElem?_eq_some_iff.1 HYZ.out).1).trans HYZ.out)
        obtain ⟨⟨h0, h1⟩, -⟩ := bx2 ((HWQ.out.block zb (Array.getElem?_eq_some_iff.1 HZZ.out).1).trans HZZ.out)
        obtain ⟨⟨k0, -, -, -, -, -⟩, -⟩ := bx6 ((HWQ.out.block bx (Array.getElem?_eq_some_iff.1 HXZ.out).1).trans HXZ.out)
        cases D with
        | true =>
          have e3 : (Ty.toList == Tz.toList) = true := HEQ.out
          have e4 : Ty.toList = Tz.toList := beq_iff_eq.1 e3
          have e5 : (!(Ty.toList == Tz.toList)) = false := by rw [e3]; rfl
          rw [e5]
          clear e3 e4 e5
          have HMO := Lib.hid (fun W (z : Int) (hb : Below wz.heap.size wz W) => more1_any (foldS Pf) Lz z u7 _ W ((HRz.out.below hb).1) (HZS.out.below lbR_mono hb) HFN.out.gd HZS0.out (by have := HFN.out.len; have := HPL.out; omega))
          have HRX : Hid (∀ (z : Int) (v : Value) (w' : World), z = bothK 6 Vy Vz → AsAt w (moreF sec (Lz, z) (foldS Pf)) v w' → AsAt w (foldS (pfx 6 false false L M i (j + 1) (Ly, Vy))) v w') := Lib.hid (fun z v w' hz h => by
            have e : [((Lz, Vz) : Rw)].filterMap (prR 6 false false (Ly, Vy)) = [(Lz, z)] := fm_one (by unfold prR; rw [if_neg (by decide), if_neg (by decide), if_pos (of_decide_eq_true HD.out), hz])
            rw [HZJ.out, e, foldS_snoc]
            exact h)
          go_wp2_with (first
            | (go_at_call 63; refine (EvT.times_any _ _ (EvT.u64_bd _).1 (EvT.u64_bd _).2 (EvT.u64_bd _).1 (EvT.u64_bd _).2 _).mono ?_; rintro e w4 ⟨rfl, rfl⟩)
            | (go_at_call 60; refine (HMO.out _ _ HWQ.out).mono ?_; intro e w5 hP; obtain ⟨v5, rfl, ha5, hb5⟩ := hP.as (HRz.out.below HWQ.out).2; have HA5 := Lib.hid (And.intro ha5 hb5); clear hP ha5 hb5))
          have HR5 := Lib.hid (HRX.out _ v5 w5 (by unfold bothK; rw [if_pos rfl, IntWalk.i64_left]) HA5.out.1)
          have HB5 := Lib.hid (HBz.out.trans ((HWQ.out.trans (HA5.out.2.mono HWQ.out.size)).mono HBz.out.size))
          go_roundw
          case rel => exact ⟨j + 1, by omega, by go_num, HR5, HB5⟩
          case measure => simp [intOf]; omega
        | false =>
          have HR6 : Hid (AsAt w (foldS (pfx 6 false false L M i (j + 1) (Ly, Vy))) u7 wt2) := Lib.hid (by
            have e : [((Lz, Vz) : Rw)].filterMap (prR 6 false false (Ly, Vy)) = [] := fm_none (by unfold prR; rw [if_neg (by decide), if_neg (by decide), if_neg (of_decide_eq_false HD.out)])
            rw [HZJ.out, e, List.append_nil]
            exact HRz.out.below HWQ.out)
          have HB6 := Lib.hid (HBz.out.trans (HWQ.out.mono HBz.out.size))
          have e3 : (Ty.toList == Tz.toList) = false := HEQ.out
          have e4 : ¬ (Ty.toList = Tz.toList) := beq_eq_false_iff_ne.1 e3
          have e5 : (!(Ty.toList == Tz.toList)) = true := by rw [e3]; rfl
          rw [e5]
          clear e3 e4 e5
          go_wp2_with fail
          go_roundw
          case rel => exact ⟨j + 1, by omega, by go_num, HR6, HB6⟩
          case measure => simp [intOf]; omega
set_option maxHeartbeats 32000000 in
set_option maxRecDepth 100000 in
theorem asked_pr7 (L M : List Rw) (x y : Ex) (d : Nat) (now k1 wd : Int) (um ub ux v : Value) (w : World)
    (hux : Sp (ExD d) 6 w ux [x, y]) (hum : ∃ a n c, um = .slice a n c) (hub : ∃ a n c, ub = .slice a n c) (hvv : ∃ a n c, v = .slice a n c)
    (hGL : ∀ r ∈ L, labelF r.1 = 0) (hlL : L.length ≤ 200) (hGM : ∀ r ∈ M, labelF r.1 = 0) (hlM : M.length ≤ 200)
    (hevx : ∀ W c0 c1 c2 c3 c4 c5, Below w.heap.size w W → ExD d W x [c0, c1, c2, c3, c4, c5] → Calls Tryz.prog 32 #[.agg #[c0, c1, c2, c3, c4, c5], v, .int .i64 now] W (AsP W L))
    (hevy : ∀ W c0 c1 c2 c3 c4 c5, Below w.heap.size w W → ExD d W y [c0, c1, c2, c3, c4, c5] → Calls Tryz.prog 32 #[.agg #[c0, c1, c2, c3, c4, c5], v, .int .i64 now] W (AsP W M)) :
    Calls Tryz.prog 32 #[.agg #[.int .i64 7, .int .i64 k1, .int .i64 wd, um, ub, ux], v, .int .i64 now] w (AsP w (foldS (prsR 7 L M))) := by
  obtain ⟨av, nv, cv, rfl⟩ := hvv
  obtain ⟨am, nm, cm, rfl⟩ := hum
  obtain ⟨ab, nb, cb, rfl⟩ := hub
  obtain ⟨ax, cx, rfl, -, -⟩ := hux.shapeN (show [x, y].length = 2 from rfl)
  obtain ⟨W, hW, hbox, hbW, hsa⟩ := box_ex w (.int .i64 7) (.int .i64 k1) (.int .i64 wd) (.slice am nm cm) (.slice ab nb cb) (.slice ax 2 cx)
  have hux2 := hux.below (exD_mono d) hbW
  obtain ⟨xb, xo, _, e9, -, -, -⟩ := hux2.headN
  subst e9
  obtain ⟨c0, c1, c2, m0, m1, m2, b0, b1, b2, x0, x1, x2, hxd, p0, p1, p2, p3, p4, p5⟩ := ex_at hux2 (i := 0) rfl
  obtain ⟨d0, d1, d2, r0, r1, r2, f0, f1, f2, v0, v1, v2, hyd, y0, y1, y2, y3, y4, y5⟩ := ex_at hux2 (i := 1) rfl
  rw [Nat.zero_mul, Nat.add_zero] at p0 p1 p2 p3 p4 p5
  rw [Nat.one_mul] at y0 y1 y2 y3 y4 y5
  obtain ⟨⟨z0, -, -, -, -, z5⟩, -⟩ := bx6 hbox
  have HS : Hid (∀ W', Below W.heap.size W W' → W'.cell? ⟨w.heap.size, 5, none⟩ = some (.slice (some ⟨xb, xo, none⟩) 2 cx) ∧ (W'.cell? ⟨xb, xo, none⟩ = some (.int .i64 c0) ∧ W'.cell? ⟨xb, xo + 1, none⟩ = some (.int .i64 c1) ∧ W'.cell? ⟨xb, xo + 2, none⟩ = some (.int .i64 c2) ∧ W'.cell? ⟨xb, xo + 3, none⟩ = some (.slice m0 m1 m2) ∧ W'.cell? ⟨xb, xo + 4, none⟩ = some (.slice b0 b1 b2) ∧ W'.cell? ⟨xb, xo + 5, none⟩ = some (.slice x0 x1 x2)) ∧ (W'.cell? ⟨xb, xo + 6, none⟩ = some (.int .i64 d0) ∧ W'.cell? ⟨xb, xo + 6 + 1, none⟩ = some (.int .i64 d1) ∧ W'.cell? ⟨xb, xo + 6 + 2, none⟩ = some (.int .i64 d2) ∧ W'.cell? ⟨xb, xo + 6 + 3, none⟩ = some (.slice r0 r1 r2) ∧ W'.cell? ⟨xb, xo + 6 + 4, none⟩ = some (.slice f0 f1 f2) ∧ W'.cell? ⟨xb, xo + 6 + 5, none⟩ = some (.slice v0 v1 v2))) := Lib.hid (fun W' hb =>
    ⟨(hb.cell (p := ⟨_, 5, none⟩) (cell_lt z5)).trans z5, ⟨(hb.cell (p := ⟨_, _, none⟩) (cell_lt p0)).trans p0, (hb.cell (p := ⟨_, _, none⟩) (cell_lt p1)).trans p1, (hb.cell (p := ⟨_, _, none⟩) (cell_lt p2)).trans p2, (hb.cell (p := ⟨_, _, none⟩) (cell_lt p3)).trans p3, (hb.cell (p := ⟨_, _, none⟩) (cell_lt p4)).trans p4, (hb.cell (p := ⟨_, _, none⟩) (cell_lt p5)).trans p5⟩,
      ⟨(hb.cell (p := ⟨_, _, none⟩) (cell_lt y0)).trans y0, (hb.cell (p := ⟨_, _, none⟩) (cell_lt y1)).trans y1, (hb.cell (p := ⟨_, _, none⟩) (cell_lt y2)).trans y2, (hb.cell (p := ⟨_, _, none⟩) (cell_lt y3)).trans y3, (hb.cell (p := ⟨_, _, none⟩) (cell_lt y4)).trans y4, (hb.cell (p := ⟨_, _, none⟩) (cell_lt y5)).trans y5⟩⟩)
  have HD0 := Lib.hid (Below.refl W.heap.size W).drew
  have q0 := HS.out _ HD0.out
  have hsz : w.heap.size ≤ W.heap.size := hbW.size
  have HEX := Lib.hid (hevx W.drew _ _ _ _ _ _ (hbW.trans (HD0.out.mono hbW.size)) (exD_mono d _ _ _ _ hxd HD0.out))
  have HEY := Lib.hid (fun W2 (hb : Below W.heap.size W W2) => hevy W2 _ _ _ _ _ _ (hbW.trans (hb.mono hbW.size)) (exD_mono d _ _ _ _ hyd hb))
  have HX2 := Lib.hid hbox
  have HBW := Lib.hid hbW
  have HGL := Lib.hid hGL
  have HGM := Lib.hid hGM
  have HWW := Lib.hid hW
  obtain ⟨nL, hnL⟩ : ∃ n, L.length = n := ⟨_, rfl⟩
  obtain ⟨nM, hnM⟩ : ∃ n, M.length = n := ⟨_, rfl⟩
  rw [hnL] at hlL
  rw [hnM] at hlM
  have HNL := Lib.hid hnL
  have HNM := Lib.hid hnM
  clear hux hux2 hxd hyd p0 p1 p2 p3 p4 p5 y0 y1 y2 y3 y4 y5 z5 hbox hbW hGL hGM hevx hevy hW hsa hnL hnM
  go_enter Tryz.func32, Tryz.ntmps32
  go_upto_region 3 with (fail)
  rw [← HWW.out]
  generalize hbx : w.heap.size = bx at *
  go_upto_region 42 with (fail)
  clear z0
  go_region_held3 (fun W' => W'.cell? ⟨bx, 5, none⟩ = some (.slice (some ⟨xb, xo, none⟩) 2 cx) ∧ (W'.cell? ⟨xb, xo, none⟩ = some (.int .i64 c0) ∧ W'.cell? ⟨xb, xo + 1, none⟩ = some (.int .i64 c1) ∧ W'.cell? ⟨xb, xo + 2, none⟩ = some (.int .i64 c2) ∧ W'.cell? ⟨xb, xo + 3, none⟩ = some (.slice m0 m1 m2) ∧ W'.cell? ⟨xb, xo + 4, none⟩ = some (.slice b0 b1 b2) ∧ W'.cell? ⟨xb, xo + 5, none⟩ = some (.slice x0 x1 x2)) ∧ (W'.cell? ⟨xb, xo + 6, none⟩ = some (.int .i64 d0) ∧ W'.cell? ⟨xb, xo + 6 + 1, none⟩ = some (.int .i64 d1) ∧ W'.cell? ⟨xb, xo + 6 + 2, none⟩ = some (.int .i64 d2) ∧ W'.cell? ⟨xb, xo + 6 + 3, none⟩ = some (.slice r0 r1 r2) ∧ W'.cell? ⟨xb, xo + 6 + 4, none⟩ = some (.slice f0 f1 f2) ∧ W'.cell? ⟨xb, xo + 6 + 5, none⟩ = some (.slice v0 v1 v2))) (first | (with_reducible exact q2) | (with_reducible exact q1) | (with_reducible exact q0) | go_keep) (first
    | (go_at_call 32; refine (HEY.out _ HB2.out).mono ?_; rintro e w3 ⟨t3, rfl, ho3, hb3⟩; have HO3 := Lib.hid ho3; have hb13 : Below W.heap.size W w3 := HB2.out.trans (hb3.mono HB2.out.size); have q2 := HS.out _ hb13; obtain ⟨o3, k3, rfl, -, -⟩ := ho3.shapeN HNM.out; have HB3 := Lib.hid hb13; have HO23 := Lib.hid (HO2.out.below rdR_mono hb3); clear ho3 hb3 hb13)
    | (go_at_call 32; refine HEX.out.mono ?_; rintro e w2 ⟨t2, rfl, ho2, hb2⟩; have HO2 := Lib.hid ho2; have hb12 : Below W.heap.size W w2 := HD0.out.trans (hb2.mono HD0.out.size); have q1 := HS.out _ hb12; obtain ⟨o2, k2, rfl, -, -⟩ := ho2.shapeN HNL.out; have HB2 := Lib.hid hb12; clear ho2 hb2 hb12))
  clear q0 q1 q2
  obtain ⟨aL, hAL⟩ : ∃ a, aloneS L = a := ⟨_, rfl⟩
  obtain ⟨aM, hAM⟩ : ∃ a, aloneS M = a := ⟨_, rfl⟩
  have HPR : Hid (prsR 7 L M = L.flatMap (fun y => M.filterMap (prR 7 aL aM y))) := Lib.hid (by unfold prsR; rw [hAL, hAM])
  have HAL := Lib.hid hAL
  have HAM := Lib.hid hAM
  clear hAL hAM
  have HX3 := Lib.hid ((HB3.out.block bx (Array.getElem?_eq_some_iff.1 HX2.out).1).trans HX2.out)
  have HBB : Hid (Below w.heap.size w w3) := Lib.hid (by rw [hbx]; exact HBW.out.trans (HB3.out.mono hsz))
  have H00 : Hid (AsAt w (foldS (pfx 7 aL aM L M 0 0 ([], 0))) (.slice none 0 0) w3) := Lib.hid ⟨Sp.nil, HBB.out⟩
  go_wp2_with fail
  go_loopw [7, 152] (fun o i wr => ∃ i' : Nat, i' ≤ nL ∧ i = .int .i64 i' ∧ Hid (AsAt w (foldS (pfx 7 aL aM L M i' 0 ([], 0))) o wr) ∧ Hid (Below w3.heap.size w3 wr)) (fun _ i _ => nL - (intOf i).toNat)
  case atStart => exact ⟨0, Nat.zero_le _, rfl, H00, Lib.hid (Below.refl _ _)⟩
  case round =>
  obtain ⟨i, hi, rfl, HR, HB⟩ := hrel
  by_cases hlt : i < nL
  case neg =>
    obtain rfl : i = nL := by omega
    have HE : Hid (AsP w (foldS (prsR 7 L M)) (.returned u7) wr) := Lib.hid (by
      have h := HR.out
      rw [pfx_zero, List.take_of_length_le (by rw [HNL.out]; exact Nat.le_refl _), ← HPR.out] at h
      exact ⟨u7, rfl, h.1, h.2⟩)
    go_wp2_with fail
    go_ret
    exact HE.out
  obtain ⟨ry, hry⟩ : ∃ r, L[i]? = some r := ⟨_, List.getElem?_eq_getElem (by rw [HNL.out]; exact hlt)⟩
  obtain ⟨Ly, Vy⟩ := ry
  obtain ⟨lb, lo, cs, e8, ⟨t, rfl, ht⟩, -, hcell⟩ := (HO23.out.below rdR_mono HB.out).get hry
  obtain rfl := e8
  simp only at ht hcell
  obtain ⟨yl, hyl⟩ : ∃ n, Ly.length = n := ⟨_, rfl⟩
  obtain ⟨ya, yc, rfl, -, -⟩ := ht.shapeN hyl
  have hL0 : labelF Ly = 0 := HGL.out _ (List.mem_of_getElem? hry)
  have g0 := hcell 0 _ rfl
  have g1 := hcell 1 _ rfl
  rw [Nat.add_zero] at g0
  obtain ⟨wb, hwb⟩ : ∃ wb, wb = wr.alloc (.cells #[.slice ya yl yc, .int .i64 Vy] 96) := ⟨_, rfl⟩
  have hBB : Below wr.heap.size wr wb := by rw [hwb]; exact (Below.refl _ wr).alloc (Nat.le_refl _) _
  have hsb : wb.heap[wr.heap.size]? = some (.cells #[.slice ya yl yc, .int .i64 Vy] 96 (0, 0)) := by rw [hwb]; exact heap_alloc_new wr _
  have HRY := Lib.hid hry
  have HYS0 := Lib.hid hL0
  have HYS1 := Lib.hid (ht.below lbR_mono hBB)
  have HYB := Lib.hid hsb
  have HBb := Lib.hid (HB.out.trans (hBB.mono HB.out.size))
  have HPB : Hid (AsAt w (foldS (pfx 7 aL aM L M i 0 (Ly, Vy))) u7 wb) := Lib.hid (by
    have h := HR.out.below hBB
    rw [pfx_zero] at h ⊢
    exact h)
  have hi0 : (0 : Int) ≤ (i : Int) := by omega
  have hi1 : (i : Int) < (nL : Int) := by omega
  clear hcell ht hry hsb hL0 hyl
  go_upto_region 47 with (fail)
  rw [← hwb]
  clear hwb hBB g0 g1
  generalize hby : wr.heap.size = yb at *
  clear HR HB
  go_wp2_with fail
  go_loopw [7, 158] (fun o q wr => ∃ j : Nat, j ≤ nM ∧ q = .int .i64 j ∧ Hid (AsAt w (foldS (pfx 7 aL aM L M i j (Ly, Vy))) o wr) ∧ Hid (Below wb.heap.size wb wr)) (fun _ q _ => nM - (intOf q).toNat)
  case atStart => exact ⟨0, Nat.zero_le _, rfl, HPB, Lib.hid (Below.refl _ _)⟩
  case round =>
  obtain ⟨j, hj, rfl, HP, HBI⟩ := hrel
  by_cases hltj : j < nM
  case neg =>
    obtain rfl : j = nM := by omega
    have HR9 : Hid (AsAt w (foldS (pfx 7 aL aM L M (i + 1) 0 ([], 0))) u7 wr) := Lib.hid (by
      have h := HP.out
      rw [← HNM.out, pfx_end (y' := ([], 0)) HRY.out] at h
      exact h)
    have HB9 := Lib.hid (HBb.out.trans (HBI.out.mono HBb.out.size))
    go_wp2_with fail
    go_roundw
    case rel => exact ⟨i + 1, by omega, by go_num, HR9, HB9⟩
    case measure => simp [intOf]; omega
  obtain ⟨rz, hrz⟩ : ∃ r, M[j]? = some r := ⟨_, List.getElem?_eq_getElem (by rw [HNM.out]; exact hltj)⟩
  obtain ⟨Lz, Vz⟩ := rz
  obtain ⟨lb2, lo2, cs, e8, ⟨t, rfl, ht⟩, -, hcell⟩ := ((HO3.out.below rdR_mono HBb.out).below rdR_mono HBI.out).get hrz
  obtain rfl := e8
  simp only at ht hcell
  obtain ⟨zl, hzl⟩ : ∃ n, Lz.length = n := ⟨_, rfl⟩
  obtain ⟨za, zc, rfl, -, -⟩ := ht.shapeN hzl
  have hL0 : labelF Lz = 0 := HGM.out _ (List.mem_of_getElem? hrz)
  have g0 := hcell 0 _ rfl
  have g1 := hcell 1 _ rfl
  rw [Nat.add_zero] at g0
  have HZJ := Lib.hid (pfx_step (k := 7) (a := aL) (b := aM) (L := L) (i := i) (y := (Ly, Vy)) hrz)
  obtain ⟨Pf, hPf⟩ : ∃ U, pfx 7 aL aM L M i j (Ly, Vy) = U := ⟨_, rfl⟩
  have hPl : Pf.length ≤ 40200 := by
    rw [← hPf]
    have h1 := pfx_len 7 aL aM L M i j (Ly, Vy)
    have h2 : L.length * M.length ≤ 200 * 200 := Nat.mul_le_mul (by rw [HNL.out]; exact hlL) (by rw [HNM.out]; exact hlM)
    have h3 := HNM.out
    omega
  have HPL := Lib.hid hPl
  have HFN : Hid (FineN Pf.length (foldS Pf)) := Lib.hid (by
    refine prs_fine (k := 7) (a := aL) (b := aM) (L := L) (M := M) HGL.out HGM.out Pf ?_
    rw [← hPf]
    exact pfx_gd HGL.out HGM.out HYS0.out)
  rw [hPf] at HP HZJ
  obtain ⟨wz, hwz⟩ : ∃ wz, wz = wr.alloc (.cells #[.slice za zl zc, .int .i64 Vz] 96) := ⟨_, rfl⟩
  have hBB : Below wr.heap.size wr wz := by rw [hwz]; exact (Below.refl _ wr).alloc (Nat.le_refl _) _
  have hsz2 : wz.heap[wr.heap.size]? = some (.cells #[.slice za zl zc, .int .i64 Vz] 96 (0, 0)) := by rw [hwz]; exact heap_alloc_new wr _
  have HRz := Lib.hid (HP.out.below hBB)
  have HBz := Lib.hid (HBI.out.trans (hBB.mono HBI.out.size))
  have hyz := (HBz.out.block yb (Array.getElem?_eq_some_iff.1 HYB.out).1).trans HYB.out
  have hxz := ((HBb.out.trans (HBz.out.mono HBb.out.size)).block bx (Array.getElem?_eq_some_iff.1 HX3.out).1).trans HX3.out
  have HYS := Lib.hid (HYS1.out.below lbR_mono HBz.out)
  have HZS := Lib.hid (ht.below lbR_mono hBB)
  have HZS0 := Lib.hid hL0
  have HSM := Lib.hid (alone_any _ M wz ((HO3.out.below rdR_mono HBb.out).below rdR_mono HBz.out))
  have HSL := Lib.hid (fun W (hb : Below wz.heap.size wz W) => alone_any _ L W (((HO23.out.below rdR_mono HBb.out).below rdR_mono HBz.out).below rdR_mono hb))
  rw [HAM.out] at HSM
  rw [HAL.out] at HSL
  have HSL2 : Hid (∀ W, Below wz.heap.size wz W → Calls Tryz.prog 62 #[.slice (some ⟨lb, lo, none⟩) nL k2] W fun e W' => e = .returned (.bool aL) ∧ W' = W) := Lib.hid (fun W hb => (HSL.out W hb).mono fun e W' h => ⟨h.1, h.2.symm⟩)
  have HTY := Lib.hid (fun W (hb : Below wz.heap.size wz W) => lbtext_any _ Ly W (HYS.out.below lbR_mono hb) HYS0.out)
  have HTZ := Lib.hid (fun W (hb : Below wz.heap.size wz W) => lbtext_any _ Lz W (HZS.out.below lbR_mono hb) hL0)
  have hj0 : (0 : Int) ≤ (j : Int) := by omega
  have hj1 : (j : Int) < (nM : Int) := by omega
  have HYZ := Lib.hid hyz
  have HZZ := Lib.hid hsz2
  have HXZ := Lib.hid hxz
  have HWQ : Hid (Below wz.heap.size wz wz) := Lib.hid (Below.refl _ _)
  obtain ⟨⟨s0, s1⟩, -⟩ := bx2 hyz
  obtain ⟨⟨h0, h1⟩, -⟩ := bx2 hsz2
  obtain ⟨⟨k0, -, -, -, -, -⟩, -⟩ := bx6 hxz
  clear hcell ht hrz hL0 hzl hPf hPl hyz hxz hsz2 hBB
  go_upto_region 50 with (fail)
  rw [← hwz]
  clear hwz g0 g1
  generalize hbz : wr.heap.size = zb at *
  clear HP HBI
  by_cases ham : aM = true
  · subst ham
    go_upto_region 54 with (go_at_call 62; refine HSM.out.mono ?_; rintro e w9 ⟨rfl, rfl⟩)
    have HMO := Lib.hid (fun W (z : Int) (hb : Below wz.heap.size wz W) => more1_any (foldS Pf) Ly z u7 _ W ((HRz.out.below hb).1) (HYS.out.below lbR_mono hb) HFN.out.gd HYS0.out (by have := HFN.out.len; have := HPL.out; omega))
    have HRX : Hid (∀ (z : Int) (v : Value) (w' : World), z = bothK 7 Vy Vz → AsAt w (moreF sec (Ly, z) (foldS Pf)) v w' → AsAt w (foldS (pfx 7 aL true L M i (j + 1) (Ly, Vy))) v w') := Lib.hid (fun z v w' hz h => by
      have e : [((Lz, Vz) : Rw)].filterMap (prR 7 aL true (Ly, Vy)) = [(Ly, z)] := fm_one (by unfold prR; rw [if_pos rfl, hz])
      rw [HZJ.out, e, foldS_snoc]
      exact h)
    go_wp2_with (first
      | (go_at_call 63; refine (EvT.times_any _ _ (EvT.u64_bd _).1 (EvT.u64_bd _).2 (EvT.u64_bd _).1 (EvT.u64_bd _).2 _).mono ?_; rintro e w4 ⟨rfl, rfl⟩)
      | (go_at_call 60; refine (HMO.out _ _ HWQ.out).mono ?_; intro e w5 hP; obtain ⟨v5, rfl, ha5, hb5⟩ := hP.as (HRz.out.below HWQ.out).2; have HA5 := Lib.hid (And.intro ha5 hb5); clear hP ha5 hb5))
    have HR5 := Lib.hid (HRX.out _ v5 w5 (by unfold bothK; rw [if_neg (by decide), if_pos rfl, IntWalk.i64_left]) HA5.out.1)
    have HB5 := Lib.hid (HBz.out.trans ((HWQ.out.trans (HA5.out.2.mono HWQ.out.size)).mono HBz.out.size))
    go_roundw
    case rel => exact ⟨j + 1, by omega, by go_num, HR5, HB5⟩
    case measure => simp [intOf]; omega
  · have ham : aM = false := by simpa using ham
    subst ham
    go_upto_region 53 with (go_at_call 62; refine HSM.out.mono ?_; rintro e w9 ⟨rfl, rfl⟩)
    have HC : Hid (∀ W, Below wz.heap.size wz W → W.cell? ⟨yb, 0, none⟩ = some (.slice ya yl yc) ∧ W.cell? ⟨zb, 0, none⟩ = some (.slice za zl zc)) := Lib.hid (fun W hb => ⟨(hb.cell (p := ⟨_, _, none⟩) (cell_lt s0)).trans s0, (hb.cell (p := ⟨_, _, none⟩) (cell_lt h0)).trans h0⟩)
    have HD1 := Lib.hid (Below.refl wz.heap.size wz).drew
    have q0 := HC.out _ HD1.out
    by_cases hal : aL = true
    · subst hal
      clear s0 s1 h0 h1 k0
      clear q0
      have HSL3 := Lib.hid (fun q => HSL2.out (wz.drewN q) (below_drewN (Below.refl _ _) q))
      go_quiet ((go_at_call 62; refine Calls.quiet_of_same (HSL3.out _)))
      have HWQ : Hid (Below wz.heap.size wz (wz.drewN nq)) := Lib.hid (below_drewN (Below.refl _ _) _)
      obtain ⟨⟨s0, s1⟩, -⟩ := bx2 ((HWQ.out.block yb (Array.getElem?_eq_some_iff.1 HYZ.out).1).trans HYZ.out)
      obtain ⟨⟨h0, h1⟩, -⟩ := bx2 ((HWQ.out.block zb (Array.getElem?_eq_some_iff.1 HZZ.out).1).trans HZZ.out)
      obtain ⟨⟨k0, -, -, -, -, -⟩, -⟩ := bx6 ((HWQ.out.block bx (Array.getElem?_eq_some_iff.1 HXZ.out).1).trans HXZ.out)
      have HMO := Lib.hid (fun W (z : Int) (hb : Below wz.heap.size wz W) => more1_any (foldS Pf) Lz z u7 _ W ((HRz.out.below hb).1) (HZS.out.below lbR_mono hb) HFN.out.gd HZS0.out (by have := HFN.out.len; have := HPL.out; omega))
      have HRX : Hid (∀ (z : Int) (v : Value) (w' : World), z = bothK 7 Vy Vz → AsAt w (moreF sec (Lz, z) (foldS Pf)) v w' → AsAt w (foldS (pfx 7 true false L M i (j + 1) (Ly, Vy))) v w') := Lib.hid (fun z v w' hz h => by
        have e : [((Lz, Vz) : Rw)].filterMap (prR 7 true false (Ly, Vy)) = [(Lz, z)] := fm_one (by unfold prR; rw [if_neg (by decide), if_pos rfl, hz])
        rw [HZJ.out, e, foldS_snoc]
        exact h)
      go_wp2_with (first
        | (go_at_call 63; refine (EvT.times_any _ _ (EvT.u64_bd _).1 (EvT.u64_bd _).2 (EvT.u64_bd _).1 (EvT.u64_bd _).2 _).mono ?_; rintro e w4 ⟨rfl, rfl⟩)
        | (go_at_call 60; refine (HMO.out _ _ HWQ.out).mono ?_; intro e w5 hP; obtain ⟨v5, rfl, ha5, hb5⟩ := hP.as (HRz.out.below HWQ.out).2; have HA5 := Lib.hid (And.intro ha5 hb5); clear hP ha5 hb5))
      have HR5 := Lib.hid (HRX.out _ v5 w5 (by unfold bothK; rw [if_neg (by decide), if_pos rfl, IntWalk.i64_left]) HA5.out.1)
      have HB5 := Lib.hid (HBz.out.trans ((HWQ.out.trans (HA5.out.2.mono HWQ.out.size)).mono HBz.out.size))
      go_roundw
      case rel => exact ⟨j + 1, by omega, by go_num, HR5, HB5⟩
      case measure => simp [intOf]; omega
    · have hal : aL = false := by simpa using hal
      subst hal
      obtain ⟨Ty, hTy⟩ : ∃ T, mkS (textM (asM Ly)) = T := ⟨_, rfl⟩
      obtain ⟨Tz, hTz⟩ : ∃ T, mkS (textM (asM Lz)) = T := ⟨_, rfl⟩
      rw [hTy] at HTY
      rw [hTz] at HTZ
      have hEQ : (Ty.toList == Tz.toList) = decide (kyL Ly = kyL Lz) := by
        rw [← hTy, ← hTz, mkS_list, mkS_list, eq_str]
        rfl
      obtain ⟨D, hD⟩ : ∃ D, decide (kyL Ly = kyL Lz) = D := ⟨_, rfl⟩
      rw [hD] at hEQ
      have HD := Lib.hid hD
      have HEQ := Lib.hid hEQ
      clear s0 s1 h0 h1 k0 hTy hTz hD hEQ
      go_region_held3 (fun W => W.cell? ⟨yb, 0, none⟩ = some (.slice ya yl yc) ∧ W.cell? ⟨zb, 0, none⟩ = some (.slice za zl zc)) (first | (with_reducible exact q2) | (with_reducible exact q1) | (with_reducible exact q0) | go_keep) (first
        | (go_at_call 62; refine (HSL.out _ HD1.out).mono ?_; rintro e w9 ⟨rfl, rfl⟩)
        | (go_at_call 12; refine (HTZ.out _ HT1.out).mono ?_; rintro e wt2 ⟨rfl, hbt2⟩; have hb12 : Below wz.heap.size wz wt2 := HT1.out.trans (hbt2.mono HT1.out.size); have q2 := HC.out _ hb12; have HT2 := Lib.hid hb12; clear hbt2 hb12)
        | (go_at_call 12; refine (HTY.out _ HD1.out).mono ?_; rintro e wt1 ⟨rfl, hbt1⟩; have hb11 : Below wz.heap.size wz wt1 := HD1.out.trans (hbt1.mono HD1.out.size); have q1 := HC.out _ hb11; have HT1 := Lib.hid hb11; clear hbt1 hb11))
      all_goals
        clear q0 q1 q2
        have HWQ := HT2
        obtain ⟨⟨s0, s1⟩, -⟩ := bx2 ((HWQ.out.block yb (Array.getElem?_eq_some_iff.1 HYZ.out).1).trans HYZ.out)
        obtain ⟨⟨h0, h1⟩, -⟩ := bx2 ((HWQ.out.block zb (Array.getElem?_eq_some_iff.1 HZZ.out).1).trans HZZ.out)
        obtain ⟨⟨k0, -, -, -, -, -⟩, -⟩ := bx6 ((HWQ.out.block bx (Array.getElem?_eq_some_iff.1 HXZ.out).1).trans HXZ.out)
        cases D with
        | true =>
          have e3 : (Ty.toList == Tz.toList) = true := HEQ.out
          have e4 : Ty.toList = Tz.toList := beq_iff_eq.1 e3
          have e5 : (!(Ty.toList == Tz.toList)) = false := by rw [e3]; rfl
          rw [e5]
          clear e3 e4 e5
          have HMO := Lib.hid (fun W (z : Int) (hb : Below wz.heap.size wz W) => more1_any (foldS Pf) Lz z u7 _ W ((HRz.out.below hb).1) (HZS.out.below lbR_mono hb) HFN.out.gd HZS0.out (by have := HFN.out.len; have := HPL.out; omega))
          have HRX : Hid (∀ (z : Int) (v : Value) (w' : World), z = bothK 7 Vy Vz → AsAt w (moreF sec (Lz, z) (foldS Pf)) v w' → AsAt w (foldS (pfx 7 false false L M i (j + 1) (Ly, Vy))) v w') := Lib.hid (fun z v w' hz h => by
            have e : [((Lz, Vz) : Rw)].filterMap (prR 7 false false (Ly, Vy)) = [(Lz, z)] := fm_one (by unfold prR; rw [if_neg (by decide), if_neg (by decide), if_pos (of_decide_eq_true HD.out), hz])
            rw [HZJ.out, e, foldS_snoc]
            exact h)
          go_wp2_with (first
            | (go_at_call 63; refine (EvT.times_any _ _ (EvT.u64_bd _).1 (EvT.u64_bd _).2 (EvT.u64_bd _).1 (EvT.u64_bd _).2 _).mono ?_; rintro e w4 ⟨rfl, rfl⟩)
            | (go_at_call 60; refine (HMO.out _ _ HWQ.out).mono ?_; intro e w5 hP; obtain ⟨v5, rfl, ha5, hb5⟩ := hP.as (HRz.out.below HWQ.out).2; have HA5 := Lib.hid (And.intro ha5 hb5); clear hP ha5 hb5))
          have HR5 := Lib.hid (HRX.out _ v5 w5 (by unfold bothK; rw [if_neg (by decide), if_pos rfl, IntWalk.i64_left]) HA5.out.1)
          have HB5 := Lib.hid (HBz.out.trans ((HWQ.out.trans (HA5.out.2.mono HWQ.out.size)).mono HBz.out.size))
          go_roundw
          case rel => exact ⟨j + 1, by omega, by go_num, HR5, HB5⟩
          case measure => simp [intOf]; omega
        | false =>
          have HR6 : Hid (AsAt w (foldS (pfx 7 false false L M i (j + 1) (Ly, Vy))) u7 wt2) := Lib.hid (by
            have e : [((Lz, Vz) : Rw)].filterMap (prR 7 false false (Ly, Vy)) = [] := fm_none (by unfold prR; rw [if_neg (by decide), if_neg (by decide), if_neg (of_decide_eq_false HD.out)])
            rw [HZJ.out, e, List.append_nil]
            exact HRz.out.below HWQ.out)
          have HB6 := Lib.hid (HBz.out.trans (HWQ.out.mono HBz.out.size))
          have e3 : (Ty.toList == Tz.toList) = false := HEQ.out
          have e4 : ¬ (Ty.toList = Tz.toList) := beq_eq_false_iff_ne.1 e3
          have e5 : (!(Ty.toList == Tz.toList)) = true := by rw [e3]; rfl
          rw [e5]
          clear e3 e4 e5
          go_wp2_with fail
          go_roundw
          case rel => exact ⟨j + 1, by omega, by go_num, HR6, HB6⟩
          case measure => simp [intOf]; omega
set_option maxHeartbeats 32000000 in
set_option maxRecDepth 100000 in
theorem asked_pr8 (L M : List Rw) (x y : Ex) (d : Nat) (now k1 wd : Int) (um ub ux v : Value) (w : World)
    (hux : Sp (ExD d) 6 w ux [x, y]) (hum : ∃ a n c, um = .slice a n c) (hub : ∃ a n c, ub = .slice a n c) (hvv : ∃ a n c, v = .slice a n c)
    (hGL : ∀ r ∈ L, labelF r.1 = 0) (hlL : L.length ≤ 200) (hGM : ∀ r ∈ M, labelF r.1 = 0) (hlM : M.length ≤ 200)
    (hevx : ∀ W c0 c1 c2 c3 c4 c5, Below w.heap.size w W → ExD d W x [c0, c1, c2, c3, c4, c5] → Calls Tryz.prog 32 #[.agg #[c0, c1, c2, c3, c4, c5], v, .int .i64 now] W (AsP W L))
    (hevy : ∀ W c0 c1 c2 c3 c4 c5, Below w.heap.size w W → ExD d W y [c0, c1, c2, c3, c4, c5] → Calls Tryz.prog 32 #[.agg #[c0, c1, c2, c3, c4, c5], v, .int .i64 now] W (AsP W M)) :
    Calls Tryz.prog 32 #[.agg #[.int .i64 8, .int .i64 k1, .int .i64 wd, um, ub, ux], v, .int .i64 now] w (AsP w (foldS (prsR 8 L M))) := by
  obtain ⟨av, nv, cv, rfl⟩ := hvv
  obtain ⟨am, nm, cm, rfl⟩ := hum
  obtain ⟨ab, nb, cb, rfl⟩ := hub
  obtain ⟨ax, cx, rfl, -, -⟩ := hux.shapeN (show [x, y].length = 2 from rfl)
  obtain ⟨W, hW, hbox, hbW, hsa⟩ := box_ex w (.int .i64 8) (.int .i64 k1) (.int .i64 wd) (.slice am nm cm) (.slice ab nb cb) (.slice ax 2 cx)
  have hux2 := hux.below (exD_mono d) hbW
  obtain ⟨xb, xo, _, e9, -, -, -⟩ := hux2.headN
  subst e9
  obtain ⟨c0, c1, c2, m0, m1, m2, b0, b1, b2, x0, x1, x2, hxd, p0, p1, p2, p3, p4, p5⟩ := ex_at hux2 (i := 0) rfl
  obtain ⟨d0, d1, d2, r0, r1, r2, f0, f1, f2, v0, v1, v2, hyd, y0, y1, y2, y3, y4, y5⟩ := ex_at hux2 (i := 1) rfl
  rw [Nat.zero_mul, Nat.add_zero] at p0 p1 p2 p3 p4 p5
  rw [Nat.one_mul] at y0 y1 y2 y3 y4 y5
  obtain ⟨⟨z0, -, -, -, -, z5⟩, -⟩ := bx6 hbox
  have HS : Hid (∀ W', Below W.heap.size W W' → W'.cell? ⟨w.heap.size, 5, none⟩ = some (.slice (some ⟨xb, xo, none⟩) 2 cx) ∧ (W'.cell? ⟨xb, xo, none⟩ = some (.int .i64 c0) ∧ W'.cell? ⟨xb, xo + 1, none⟩ = some (.int .i64 c1) ∧ W'.cell? ⟨xb, xo + 2, none⟩ = some (.int .i64 c2) ∧ W'.cell? ⟨xb, xo + 3, none⟩ = some (.slice m0 m1 m2) ∧ W'.cell? ⟨xb, xo + 4, none⟩ = some (.slice b0 b1 b2) ∧ W'.cell? ⟨xb, xo + 5, none⟩ = some (.slice x0 x1 x2)) ∧ (W'.cell? ⟨xb, xo + 6, none⟩ = some (.int .i64 d0) ∧ W'.cell? ⟨xb, xo + 6 + 1, none⟩ = some (.int .i64 d1) ∧ W'.cell? ⟨xb, xo + 6 + 2, none⟩ = some (.int .i64 d2) ∧ W'.cell? ⟨xb, xo + 6 + 3, none⟩ = some (.slice r0 r1 r2) ∧ W'.cell? ⟨xb, xo + 6 + 4, none⟩ = some (.slice f0 f1 f2) ∧ W'.cell? ⟨xb, xo + 6 + 5, none⟩ = some (.slice v0 v1 v2))) := Lib.hid (fun W' hb =>
    ⟨(hb.cell (p := ⟨_, 5, none⟩) (cell_lt z5)).trans z5, ⟨(hb.cell (p := ⟨_, _, none⟩) (cell_lt p0)).trans p0, (hb.cell (p := ⟨_, _, none⟩) (cell_lt p1)).trans p1, (hb.cell (p := ⟨_, _, none⟩) (cell_lt p2)).trans p2, (hb.cell (p := ⟨_, _, none⟩) (cell_lt p3)).trans p3, (hb.cell (p := ⟨_, _, none⟩) (cell_lt p4)).trans p4, (hb.cell (p := ⟨_, _, none⟩) (cell_lt p5)).trans p5⟩,
      ⟨(hb.cell (p := ⟨_, _, none⟩) (cell_lt y0)).trans y0, (hb.cell (p := ⟨_, _, none⟩) (cell_lt y1)).trans y1, (hb.cell (p := ⟨_, _, none⟩) (cell_lt y2)).trans y2, (hb.cell (p := ⟨_, _, none⟩) (cell_lt y3)).trans y3, (hb.cell (p := ⟨_, _, none⟩) (cell_lt y4)).trans y4, (hb.cell (p := ⟨_, _, none⟩) (cell_lt y5)).trans y5⟩⟩)
  have HD0 := Lib.hid (Below.refl W.heap.size W).drew
  have q0 := HS.out _ HD0.out
  have hsz : w.heap.size ≤ W.heap.size := hbW.size
  have HEX := Lib.hid (hevx W.drew _ _ _ _ _ _ (hbW.trans (HD0.out.mono hbW.size)) (exD_mono d _ _ _ _ hxd HD0.out))
  have HEY := Lib.hid (fun W2 (hb : Below W.heap.size W W2) => hevy W2 _ _ _ _ _ _ (hbW.trans (hb.mono hbW.size)) (exD_mono d _ _ _ _ hyd hb))
  have HX2 := Lib.hid hbox
  have HBW := Lib.hid hbW
  have HGL := Lib.hid hGL
  have HGM := Lib.hid hGM
  have HWW := Lib.hid hW
  obtain ⟨nL, hnL⟩ : ∃ n, L.length = n := ⟨_, rfl⟩
  obtain ⟨nM, hnM⟩ : ∃ n, M.length = n := ⟨_, rfl⟩
  rw [hnL] at hlL
  rw [hnM] at hlM
  have HNL := Lib.hid hnL
  have HNM := Lib.hid hnM
  clear hux hux2 hxd hyd p0 p1 p2 p3 p4 p5 y0 y1 y2 y3 y4 y5 z5 hbox hbW hGL hGM hevx hevy hW hsa hnL hnM
  go_enter Tryz.func32, Tryz.ntmps32
  go_upto_region 3 with (fail)
  rw [← HWW.out]
  generalize hbx : w.heap.size = bx at *
  go_upto_region 42 with (fail)
  clear z0
  go_region_held3 (fun W' => W'.cell? ⟨bx, 5, none⟩ = some (.slice (some ⟨xb, xo, none⟩) 2 cx) ∧ (W'.cell? ⟨xb, xo, none⟩ = some (.int .i64 c0) ∧ W'.cell? ⟨xb, xo + 1, none⟩ = some (.int .i64 c1) ∧ W'.cell? ⟨xb, xo + 2, none⟩ = some (.int .i64 c2) ∧ W'.cell? ⟨xb, xo + 3, none⟩ = some (.slice m0 m1 m2) ∧ W'.cell? ⟨xb, xo + 4, none⟩ = some (.slice b0 b1 b2) ∧ W'.cell? ⟨xb, xo + 5, none⟩ = some (.slice x0 x1 x2)) ∧ (W'.cell? ⟨xb, xo + 6, none⟩ = some (.int .i64 d0) ∧ W'.cell? ⟨xb, xo + 6 + 1, none⟩ = some (.int .i64 d1) ∧ W'.cell? ⟨xb, xo + 6 + 2, none⟩ = some (.int .i64 d2) ∧ W'.cell? ⟨xb, xo + 6 + 3, none⟩ = some (.slice r0 r1 r2) ∧ W'.cell? ⟨xb, xo + 6 + 4, none⟩ = some (.slice f0 f1 f2) ∧ W'.cell? ⟨xb, xo + 6 + 5, none⟩ = some (.slice v0 v1 v2))) (first | (with_reducible exact q2) | (with_reducible exact q1) | (with_reducible exact q0) | go_keep) (first
    | (go_at_call 32; refine (HEY.out _ HB2.out).mono ?_; rintro e w3 ⟨t3, rfl, ho3, hb3⟩; have HO3 := Lib.hid ho3; have hb13 : Below W.heap.size W w3 := HB2.out.trans (hb3.mono HB2.out.size); have q2 := HS.out _ hb13; obtain ⟨o3, k3, rfl, -, -⟩ := ho3.shapeN HNM.out; have HB3 := Lib.hid hb13; have HO23 := Lib.hid (HO2.out.below rdR_mono hb3); clear ho3 hb3 hb13)
    | (go_at_call 32; refine HEX.out.mono ?_; rintro e w2 ⟨t2, rfl, ho2, hb2⟩; have HO2 := Lib.hid ho2; have hb12 : Below W.heap.size W w2 := HD0.out.trans (hb2.mono HD0.out.size); have q1 := HS.out _ hb12; obtain ⟨o2, k2, rfl, -, -⟩ := ho2.shapeN HNL.out; have HB2 := Lib.hid hb12; clear ho2 hb2 hb12))
  clear q0 q1 q2
  obtain ⟨aL, hAL⟩ : ∃ a, aloneS L = a := ⟨_, rfl⟩
  obtain ⟨aM, hAM⟩ : ∃ a, aloneS M = a := ⟨_, rfl⟩
  have HPR : Hid (prsR 8 L M = L.flatMap (fun y => M.filterMap (prR 8 aL aM y))) := Lib.hid (by unfold prsR; rw [hAL, hAM])
  have HAL := Lib.hid hAL
  have HAM := Lib.hid hAM
  clear hAL hAM
  have HX3 := Lib.hid ((HB3.out.block bx (Array.getElem?_eq_some_iff.1 HX2.out).1).trans HX2.out)
  have HBB : Hid (Below w.heap.size w w3) := Lib.hid (by rw [hbx]; exact HBW.out.trans (HB3.out.mono hsz))
  have H00 : Hid (AsAt w (foldS (pfx 8 aL aM L M 0 0 ([], 0))) (.slice none 0 0) w3) := Lib.hid ⟨Sp.nil, HBB.out⟩
  go_wp2_with fail
  go_loopw [7, 152] (fun o i wr => ∃ i' : Nat, i' ≤ nL ∧ i = .int .i64 i' ∧ Hid (AsAt w (foldS (pfx 8 aL aM L M i' 0 ([], 0))) o wr) ∧ Hid (Below w3.heap.size w3 wr)) (fun _ i _ => nL - (intOf i).toNat)
  case atStart => exact ⟨0, Nat.zero_le _, rfl, H00, Lib.hid (Below.refl _ _)⟩
  case round =>
  obtain ⟨i, hi, rfl, HR, HB⟩ := hrel
  by_cases hlt : i < nL
  case neg =>
    obtain rfl : i = nL := by omega
    have HE : Hid (AsP w (foldS (prsR 8 L M)) (.returned u7) wr) := Lib.hid (by
      have h := HR.out
      rw [pfx_zero, List.take_of_length_le (by rw [HNL.out]; exact Nat.le_refl _), ← HPR.out] at h
      exact ⟨u7, rfl, h.1, h.2⟩)
    go_wp2_with fail
    go_ret
    exact HE.out
  obtain ⟨ry, hry⟩ : ∃ r, L[i]? = some r := ⟨_, List.getElem?_eq_getElem (by rw [HNL.out]; exact hlt)⟩
  obtain ⟨Ly, Vy⟩ := ry
  obtain ⟨lb, lo, cs, e8, ⟨t, rfl, ht⟩, -, hcell⟩ := (HO23.out.below rdR_mono HB.out).get hry
  obtain rfl := e8
  simp only at ht hcell
  obtain ⟨yl, hyl⟩ : ∃ n, Ly.length = n := ⟨_, rfl⟩
  obtain ⟨ya, yc, rfl, -, -⟩ := ht.shapeN hyl
  have hL0 : labelF Ly = 0 := HGL.out _ (List.mem_of_getElem? hry)
  have g0 := hcell 0 _ rfl
  have g1 := hcell 1 _ rfl
  rw [Nat.add_zero] at g0
  obtain ⟨wb, hwb⟩ : ∃ wb, wb = wr.alloc (.cells #[.slice ya yl yc, .int .i64 Vy] 96) := ⟨_, rfl⟩
  have hBB : Below wr.heap.size wr wb := by rw [hwb]; exact (Below.refl _ wr).alloc (Nat.le_refl _) _
  have hsb : wb.heap[wr.heap.size]? = some (.cells #[.slice ya yl yc, .int .i64 Vy] 96 (0, 0)) := by rw [hwb]; exact heap_alloc_new wr _
  have HRY := Lib.hid hry
  have HYS0 := Lib.hid hL0
  have HYS1 := Lib.hid (ht.below lbR_mono hBB)
  have HYB := Lib.hid hsb
  have HBb := Lib.hid (HB.out.trans (hBB.mono HB.out.size))
  have HPB : Hid (AsAt w (foldS (pfx 8 aL aM L M i 0 (Ly, Vy))) u7 wb) := Lib.hid (by
    have h := HR.out.below hBB
    rw [pfx_zero] at h ⊢
    exact h)
  have hi0 : (0 : Int) ≤ (i : Int) := by omega
  have hi1 : (i : Int) < (nL : Int) := by omega
  clear hcell ht hry hsb hL0 hyl
  go_upto_region 47 with (fail)
  rw [← hwb]
  clear hwb hBB g0 g1
  generalize hby : wr.heap.size = yb at *
  clear HR HB
  go_wp2_with fail
  go_loopw [7, 158] (fun o q wr => ∃ j : Nat, j ≤ nM ∧ q = .int .i64 j ∧ Hid (AsAt w (foldS (pfx 8 aL aM L M i j (Ly, Vy))) o wr) ∧ Hid (Below wb.heap.size wb wr)) (fun _ q _ => nM - (intOf q).toNat)
  case atStart => exact ⟨0, Nat.zero_le _, rfl, HPB, Lib.hid (Below.refl _ _)⟩
  case round =>
  obtain ⟨j, hj, rfl, HP, HBI⟩ := hrel
  by_cases hltj : j < nM
  case neg =>
    obtain rfl : j = nM := by omega
    have HR9 : Hid (AsAt w (foldS (pfx 8 aL aM L M (i + 1) 0 ([], 0))) u7 wr) := Lib.hid (by
      have h := HP.out
      rw [← HNM.out, pfx_end (y' := ([], 0)) HRY.out] at h
      exact h)
    have HB9 := Lib.hid (HBb.out.trans (HBI.out.mono HBb.out.size))
    go_wp2_with fail
    go_roundw
    case rel => exact ⟨i + 1, by omega, by go_num, HR9, HB9⟩
    case measure => simp [intOf]; omega
  obtain ⟨rz, hrz⟩ : ∃ r, M[j]? = some r := ⟨_, List.getElem?_eq_getElem (by rw [HNM.out]; exact hltj)⟩
  obtain ⟨Lz, Vz⟩ := rz
  obtain ⟨lb2, lo2, cs, e8, ⟨t, rfl, ht⟩, -, hcell⟩ := ((HO3.out.below rdR_mono HBb.out).below rdR_mono HBI.out).get hrz
  obtain rfl := e8
  simp only at ht hcell
  obtain ⟨zl, hzl⟩ : ∃ n, Lz.length = n := ⟨_, rfl⟩
  obtain ⟨za, zc, rfl, -, -⟩ := ht.shapeN hzl
  have hL0 : labelF Lz = 0 := HGM.out _ (List.mem_of_getElem? hrz)
  have g0 := hcell 0 _ rfl
  have g1 := hcell 1 _ rfl
  rw [Nat.add_zero] at g0
  have HZJ := Lib.hid (pfx_step (k := 8) (a := aL) (b := aM) (L := L) (i := i) (y := (Ly, Vy)) hrz)
  obtain ⟨Pf, hPf⟩ : ∃ U, pfx 8 aL aM L M i j (Ly, Vy) = U := ⟨_, rfl⟩
  have hPl : Pf.length ≤ 40200 := by
    rw [← hPf]
    have h1 := pfx_len 8 aL aM L M i j (Ly, Vy)
    have h2 : L.length * M.length ≤ 200 * 200 := Nat.mul_le_mul (by rw [HNL.out]; exact hlL) (by rw [HNM.out]; exact hlM)
    have h3 := HNM.out
    omega
  have HPL := Lib.hid hPl
  have HFN : Hid (FineN Pf.length (foldS Pf)) := Lib.hid (by
    refine prs_fine (k := 8) (a := aL) (b := aM) (L := L) (M := M) HGL.out HGM.out Pf ?_
    rw [← hPf]
    exact pfx_gd HGL.out HGM.out HYS0.out)
  rw [hPf] at HP HZJ
  obtain ⟨wz, hwz⟩ : ∃ wz, wz = wr.alloc (.cells #[.slice za zl zc, .int .i64 Vz] 96) := ⟨_, rfl⟩
  have hBB : Below wr.heap.size wr wz := by rw [hwz]; exact (Below.refl _ wr).alloc (Nat.le_refl _) _
  have hsz2 : wz.heap[wr.heap.size]? = some (.cells #[.slice za zl zc, .int .i64 Vz] 96 (0, 0)) := by rw [hwz]; exact heap_alloc_new wr _
  have HRz := Lib.hid (HP.out.below hBB)
  have HBz := Lib.hid (HBI.out.trans (hBB.mono HBI.out.size))
  have hyz := (HBz.out.block yb (Array.getElem?_eq_some_iff.1 HYB.out).1).trans HYB.out
  have hxz := ((HBb.out.trans (HBz.out.mono HBb.out.size)).block bx (Array.getElem?_eq_some_iff.1 HX3.out).1).trans HX3.out
  have HYS := Lib.hid (HYS1.out.below lbR_mono HBz.out)
  have HZS := Lib.hid (ht.below lbR_mono hBB)
  have HZS0 := Lib.hid hL0
  have HSM := Lib.hid (alone_any _ M wz ((HO3.out.below rdR_mono HBb.out).below rdR_mono HBz.out))
  have HSL := Lib.hid (fun W (hb : Below wz.heap.size wz W) => alone_any _ L W (((HO23.out.below rdR_mono HBb.out).below rdR_mono HBz.out).below rdR_mono hb))
  rw [HAM.out] at HSM
  rw [HAL.out] at HSL
  have HSL2 : Hid (∀ W, Below wz.heap.size wz W → Calls Tryz.prog 62 #[.slice (some ⟨lb, lo, none⟩) nL k2] W fun e W' => e = .returned (.bool aL) ∧ W' = W) := Lib.hid (fun W hb => (HSL.out W hb).mono fun e W' h => ⟨h.1, h.2.symm⟩)
  have HTY := Lib.hid (fun W (hb : Below wz.heap.size wz W) => lbtext_any _ Ly W (HYS.out.below lbR_mono hb) HYS0.out)
  have HTZ := Lib.hid (fun W (hb : Below wz.heap.size wz W) => lbtext_any _ Lz W (HZS.out.below lbR_mono hb) hL0)
  have hj0 : (0 : Int) ≤ (j : Int) := by omega
  have hj1 : (j : Int) < (nM : Int) := by omega
  have HYZ := Lib.hid hyz
  have HZZ := Lib.hid hsz2
  have HXZ := Lib.hid hxz
  have HWQ : Hid (Below wz.heap.size wz wz) := Lib.hid (Below.refl _ _)
  obtain ⟨⟨s0, s1⟩, -⟩ := bx2 hyz
  obtain ⟨⟨h0, h1⟩, -⟩ := bx2 hsz2
  obtain ⟨⟨k0, -, -, -, -, -⟩, -⟩ := bx6 hxz
  clear hcell ht hrz hL0 hzl hPf hPl hyz hxz hsz2 hBB
  go_upto_region 50 with (fail)
  rw [← hwz]
  clear hwz g0 g1
  generalize hbz : wr.heap.size = zb at *
  clear HP HBI
  by_cases ham : aM = true
  · subst ham
    go_upto_region 54 with (go_at_call 62; refine HSM.out.mono ?_; rintro e w9 ⟨rfl, rfl⟩)
    have HMO := Lib.hid (fun W (z : Int) (hb : Below wz.heap.size wz W) => more1_any (foldS Pf) Ly z u7 _ W ((HRz.out.below hb).1) (HYS.out.below lbR_mono hb) HFN.out.gd HYS0.out (by have := HFN.out.len; have := HPL.out; omega))
    have HRX : Hid (∀ (z : Int) (v : Value) (w' : World), z = bothK 8 Vy Vz → AsAt w (moreF sec (Ly, z) (foldS Pf)) v w' → AsAt w (foldS (pfx 8 aL true L M i (j + 1) (Ly, Vy))) v w') := Lib.hid (fun z v w' hz h => by
      have e : [((Lz, Vz) : Rw)].filterMap (prR 8 aL true (Ly, Vy)) = [(Ly, z)] := fm_one (by unfold prR; rw [if_pos rfl, hz])
      rw [HZJ.out, e, foldS_snoc]
      exact h)
    go_wp2_with (first
      | (go_at_call 63; refine (EvT.times_any _ _ (EvT.u64_bd _).1 (EvT.u64_bd _).2 (EvT.u64_bd _).1 (EvT.u64_bd _).2 _).mono ?_; rintro e w4 ⟨rfl, rfl⟩)
      | (go_at_call 60; refine (HMO.out _ _ HWQ.out).mono ?_; intro e w5 hP; obtain ⟨v5, rfl, ha5, hb5⟩ := hP.as (HRz.out.below HWQ.out).2; have HA5 := Lib.hid (And.intro ha5 hb5); clear hP ha5 hb5))
    have HR5 := Lib.hid (HRX.out _ v5 w5 (by rw [← IntWalk.i64_left, EvT.mul_wrap]; rfl) HA5.out.1)
    have HB5 := Lib.hid (HBz.out.trans ((HWQ.out.trans (HA5.out.2.mono HWQ.out.size)).mono HBz.out.size))
    go_roundw
    case rel => exact ⟨j + 1, by omega, by go_num, HR5, HB5⟩
    case measure => simp [intOf]; omega
  · have ham : aM = false := by simpa using ham
    subst ham
    go_upto_region 53 with (go_at_call 62; refine HSM.out.mono ?_; rintro e w9 ⟨rfl, rfl⟩)
    have HC : Hid (∀ W, Below wz.heap.size wz W → W.cell? ⟨yb, 0, none⟩ = some (.slice ya yl yc) ∧ W.cell? ⟨zb, 0, none⟩ = some (.slice za zl zc)) := Lib.hid (fun W hb => ⟨(hb.cell (p := ⟨_, _, none⟩) (cell_lt s0)).trans s0, (hb.cell (p := ⟨_, _, none⟩) (cell_lt h0)).trans h0⟩)
    have HD1 := Lib.hid (Below.refl wz.heap.size wz).drew
    have q0 := HC.out _ HD1.out
    by_cases hal : aL = true
    · subst hal
      clear s0 s1 h0 h1 k0
      clear q0
      have HSL3 := Lib.hid (fun q => HSL2.out (wz.drewN q) (below_drewN (Below.refl _ _) q))
      go_quiet ((go_at_call 62; refine Calls.quiet_of_same (HSL3.out _)))
      have HWQ : Hid (Below wz.heap.size wz (wz.drewN nq)) := Lib.hid (below_drewN (Below.refl _ _) _)
      obtain ⟨⟨s0, s1⟩, -⟩ := bx2 ((HWQ.out.block yb (Array.getElem?_eq_some_iff.1 HYZ.out).1).trans HYZ.out)
      obtain ⟨⟨h0, h1⟩, -⟩ := bx2 ((HWQ.out.block zb (Array.getElem?_eq_some_iff.1 HZZ.out).1).trans HZZ.out)
      obtain ⟨⟨k0, -, -, -, -, -⟩, -⟩ := bx6 ((HWQ.out.block bx (Array.getElem?_eq_some_iff.1 HXZ.out).1).trans HXZ.out)
      have HMO := Lib.hid (fun W (z : Int) (hb : Below wz.heap.size wz W) => more1_any (foldS Pf) Lz z u7 _ W ((HRz.out.below hb).1) (HZS.out.below lbR_mono hb) HFN.out.gd HZS0.out (by have := HFN.out.len; have := HPL.out; omega))
      have HRX : Hid (∀ (z : Int) (v : Value) (w' : World), z = bothK 8 Vy Vz → AsAt w (moreF sec (Lz, z) (foldS Pf)) v w' → AsAt w (foldS (pfx 8 true false L M i (j + 1) (Ly, Vy))) v w') := Lib.hid (fun z v w' hz h => by
        have e : [((Lz, Vz) : Rw)].filterMap (prR 8 true false (Ly, Vy)) = [(Lz, z)] := fm_one (by unfold prR; rw [if_neg (by decide), if_pos rfl, hz])
        rw [HZJ.out, e, foldS_snoc]
        exact h)
      go_wp2_with (first
        | (go_at_call 63; refine (EvT.times_any _ _ (EvT.u64_bd _).1 (EvT.u64_bd _).2 (EvT.u64_bd _).1 (EvT.u64_bd _).2 _).mono ?_; rintro e w4 ⟨rfl, rfl⟩)
        | (go_at_call 60; refine (HMO.out _ _ HWQ.out).mono ?_; intro e w5 hP; obtain ⟨v5, rfl, ha5, hb5⟩ := hP.as (HRz.out.below HWQ.out).2; have HA5 := Lib.hid (And.intro ha5 hb5); clear hP ha5 hb5))
      have HR5 := Lib.hid (HRX.out _ v5 w5 (by rw [← IntWalk.i64_left, EvT.mul_wrap]; rfl) HA5.out.1)
      have HB5 := Lib.hid (HBz.out.trans ((HWQ.out.trans (HA5.out.2.mono HWQ.out.size)).mono HBz.out.size))
      go_roundw
      case rel => exact ⟨j + 1, by omega, by go_num, HR5, HB5⟩
      case measure => simp [intOf]; omega
    · have hal : aL = false := by simpa using hal
      subst hal
      obtain ⟨Ty, hTy⟩ : ∃ T, mkS (textM (asM Ly)) = T := ⟨_, rfl⟩
      obtain ⟨Tz, hTz⟩ : ∃ T, mkS (textM (asM Lz)) = T := ⟨_, rfl⟩
      rw [hTy] at HTY
      rw [hTz] at HTZ
      have hEQ : (Ty.toList == Tz.toList) = decide (kyL Ly = kyL Lz) := by
        rw [← hTy, ← hTz, mkS_list, mkS_list, eq_str]
        rfl
      obtain ⟨D, hD⟩ : ∃ D, decide (kyL Ly = kyL Lz) = D := ⟨_, rfl⟩
      rw [hD] at hEQ
      have HD := Lib.hid hD
      have HEQ := Lib.hid hEQ
      clear s0 s1 h0 h1 k0 hTy hTz hD hEQ
      go_region_held3 (fun W => W.cell? ⟨yb, 0, none⟩ = some (.slice ya yl yc) ∧ W.cell? ⟨zb, 0, none⟩ = some (.slice za zl zc)) (first | (with_reducible exact q2) | (with_reducible exact q1) | (with_reducible exact q0) | go_keep) (first
        | (go_at_call 62; refine (HSL.out _ HD1.out).mono ?_; rintro e w9 ⟨rfl, rfl⟩)
        | (go_at_call 12; refine (HTZ.out _ HT1.out).mono ?_; rintro e wt2 ⟨rfl, hbt2⟩; have hb12 : Below wz.heap.size wz wt2 := HT1.out.trans (hbt2.mono HT1.out.size); have q2 := HC.out _ hb12; have HT2 := Lib.hid hb12; clear hbt2 hb12)
        | (go_at_call 12; refine (HTY.out _ HD1.out).mono ?_; rintro e wt1 ⟨rfl, hbt1⟩; have hb11 : Below wz.heap.size wz wt1 := HD1.out.trans (hbt1.mono HD1.out.size); have q1 := HC.out _ hb11; have HT1 := Lib.hid hb11; clear hbt1 hb11))
      all_goals
        clear q0 q1 q2
        have HWQ := HT2
        obtain ⟨⟨s0, s1⟩, -⟩ := bx2 ((HWQ.out.block yb (Array.getElem?_eq_some_iff.1 HYZ.out).1).trans HYZ.out)
        obtain ⟨⟨h0, h1⟩, -⟩ := bx2 ((HWQ.out.block zb (Array.getElem?_eq_some_iff.1 HZZ.out).1).trans HZZ.out)
        obtain ⟨⟨k0, -, -, -, -, -⟩, -⟩ := bx6 ((HWQ.out.block bx (Array.getElem?_eq_some_iff.1 HXZ.out).1).trans HXZ.out)
        cases D with
        | true =>
          have e3 : (Ty.toList == Tz.toList) = true := HEQ.out
          have e4 : Ty.toList = Tz.toList := beq_iff_eq.1 e3
          have e5 : (!(Ty.toList == Tz.toList)) = false := by rw [e3]; rfl
          rw [e5]
          clear e3 e4 e5
          have HMO := Lib.hid (fun W (z : Int) (hb : Below wz.heap.size wz W) => more1_any (foldS Pf) Lz z u7 _ W ((HRz.out.below hb).1) (HZS.out.below lbR_mono hb) HFN.out.gd HZS0.out (by have := HFN.out.len; have := HPL.out; omega))
          have HRX : Hid (∀ (z : Int) (v : Value) (w' : World), z = bothK 8 Vy Vz → AsAt w (moreF sec (Lz, z) (foldS Pf)) v w' → AsAt w (foldS (pfx 8 false false L M i (j + 1) (Ly, Vy))) v w') := Lib.hid (fun z v w' hz h => by
            have e : [((Lz, Vz) : Rw)].filterMap (prR 8 false false (Ly, Vy)) = [(Lz, z)] := fm_one (by unfold prR; rw [if_neg (by decide), if_neg (by decide), if_pos (of_decide_eq_true HD.out), hz])
            rw [HZJ.out, e, foldS_snoc]
            exact h)
          go_wp2_with (first
            | (go_at_call 63; refine (EvT.times_any _ _ (EvT.u64_bd _).1 (EvT.u64_bd _).2 (EvT.u64_bd _).1 (EvT.u64_bd _).2 _).mono ?_; rintro e w4 ⟨rfl, rfl⟩)
            | (go_at_call 60; refine (HMO.out _ _ HWQ.out).mono ?_; intro e w5 hP; obtain ⟨v5, rfl, ha5, hb5⟩ := hP.as (HRz.out.below HWQ.out).2; have HA5 := Lib.hid (And.intro ha5 hb5); clear hP ha5 hb5))
          have HR5 := Lib.hid (HRX.out _ v5 w5 (by rw [← IntWalk.i64_left, EvT.mul_wrap]; rfl) HA5.out.1)
          have HB5 := Lib.hid (HBz.out.trans ((HWQ.out.trans (HA5.out.2.mono HWQ.out.size)).mono HBz.out.size))
          go_roundw
          case rel => exact ⟨j + 1, by omega, by go_num, HR5, HB5⟩
          case measure => simp [intOf]; omega
        | false =>
          have HR6 : Hid (AsAt w (foldS (pfx 8 false false L M i (j + 1) (Ly, Vy))) u7 wt2) := Lib.hid (by
            have e : [((Lz, Vz) : Rw)].filterMap (prR 8 false false (Ly, Vy)) = [] := fm_none (by unfold prR; rw [if_neg (by decide), if_neg (by decide), if_neg (of_decide_eq_false HD.out)])
            rw [HZJ.out, e, List.append_nil]
            exact HRz.out.below HWQ.out)
          have HB6 := Lib.hid (HBz.out.trans (HWQ.out.mono HBz.out.size))
          have e3 : (Ty.toList == Tz.toList) = false := HEQ.out
          have e4 : ¬ (Ty.toList = Tz.toList) := beq_eq_false_iff_ne.1 e3
          have e5 : (!(Ty.toList == Tz.toList)) = true := by rw [e3]; rfl
          rw [e5]
          clear e3 e4 e5
          go_wp2_with fail
          go_roundw
          case rel => exact ⟨j + 1, by omega, by go_num, HR6, HB6⟩
          case measure => simp [intOf]; omega
end Go.Proofs.YtjmplhkdohlbcaaGreatDoor.Evl
