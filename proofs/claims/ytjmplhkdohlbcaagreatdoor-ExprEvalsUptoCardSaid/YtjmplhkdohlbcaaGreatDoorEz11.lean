/-
  The walk of group.
-/
import Derived.Test.YtjmplhkdohlbcaaGreatDoorEz2
import Derived.Test.YtjmplhkdohlbcaaGreatDoorEz10
import Derived.Deep.CutBlock
import Derived.Maps.AppendAt
namespace Go.Proofs.YtjmplhkdohlbcaaGreatDoor.Evl
open Go.RowKit Go.Gh Go.Gh.Clr Go.WideShapes Go.Proofs.YtjmplhkdohlbcaaGreatDoor.Lab Go.Proofs.YtjmplhkdohlbcaaGreatDoor.Exp
set_option linter.unusedVariables false
set_option linter.unusedSimpArgs false
theorem pc_setE {α : Type} {k : Nat} : ∀ {P : List (α × List Value)} {i j : Nat} {a a' : α} {cs : List Value} {u : Value}, PK k P → P[i]? = some (a, cs) → j < k → (pc P).set (i * k + j) u = pc (P.set i (a', cs.set j u))
  | [], i, j, a, a', cs, u, _, h, _ => by simp at h
  | q :: P, 0, j, a, a', cs, u, h, hi, hj => by
    have hq : q = (a, cs) := by simpa using hi
    subst hq
    have hl := h (a, cs) (by simp)
    rw [pc_cons, Nat.zero_mul, Nat.zero_add, List.set_append_left _ _ (by rw [hl]; exact hj), List.set_cons_zero, pc_cons]
  | q :: P, i + 1, j, a, a', cs, u, h, hi, hj => by
    have hq := h q (by simp)
    rw [pc_cons, Nat.succ_mul, List.set_append_right _ _ (by rw [hq]; omega), hq, show i * k + k + j - k = i * k + j from by omega, pc_setE (a' := a') (fun r hr => h r (by simp [hr])) (by simpa using hi) hj, List.set_cons_succ, pc_cons]
theorem rw_el {w : World} {B n g cap i : Nat} {R : List Rw} {x : Rw} (h : Ow (RwO B) 3 98 B w (.slice (some ⟨g, 0, none⟩) n cap) R) (hn : R.length = n) (hx : R[i]? = some x) : w.cell? ⟨g, i * 3 + 2, none⟩ = some (.int .i64 x.2) ∧ w.frozen? ⟨g, i * 3 + 2, none⟩ = false := by
  obtain ⟨P, h1, h2, h3, h4⟩ := h
  rw [hn] at h4
  have hi := (List.getElem?_eq_some_iff.1 hx).1
  obtain ⟨cs, hp⟩ := pair_at h1 hx
  obtain ⟨t, hr, -⟩ := h3 _ (List.mem_of_getElem? hp)
  simp only at hr
  subst hr
  obtain ⟨q1, q2⟩ := own_el h4 h2 hp (by omega)
  exact ⟨q1 2 _ rfl, q2 2⟩
theorem rw_over {w : World} {B n g cap i : Nat} {R : List Rw} {x : Rw} {z : Int} (h : Ow (RwO B) 3 98 B w (.slice (some ⟨g, 0, none⟩) n cap) R) (hn : R.length = n) (hx : R[i]? = some x) :
    Ow (RwO B) 3 98 B (w.setCell ⟨g, i * 3 + 2, none⟩ (.int .i64 z)) (.slice (some ⟨g, 0, none⟩) n cap) (R.set i (x.1, z)) ∧ B ≤ g := by
  obtain ⟨P, h1, h2, h3, h4⟩ := h
  rw [hn] at h4
  have hi := (List.getElem?_eq_some_iff.1 hx).1
  obtain ⟨cs, hp⟩ := pair_at h1 hx
  have hr0 := h3 _ (List.mem_of_getElem? hp)
  obtain ⟨t, hr, ht⟩ := hr0
  simp only at hr
  subst hr
  have hst := h4.stored (i * 3 + 2) (.int .i64 z)
  have hpl : P.length = R.length := by rw [← h1, List.length_map]
  have hoff := off_row (e' := 75) h4 (by decide)
  have hgr : w.grownBy (w.setCell ⟨g, i * 3 + 2, none⟩ (.int .i64 z)) (some g) := grown_set w ⟨g, i * 3 + 2, none⟩ _
  rw [pc_setE (a' := (x.1, z)) h2 hp (by decide)] at hst
  have hrw : ∀ p ∈ P.set i ((x.1, z), [.string (mkS (kyL x.1)), t, .int .i64 z]), RwO B (w.setCell ⟨g, i * 3 + 2, none⟩ (.int .i64 z)) p.1 p.2 :=
    all_set (Q := fun p => RwO B (w.setCell ⟨g, i * 3 + 2, none⟩ (.int .i64 z)) p.1 p.2) (fun p hp => (h3 p hp).turn hgr hoff) (show RwO B (w.setCell ⟨g, i * 3 + 2, none⟩ (.int .i64 z)) ((x.1, z) : Rw) [.string (mkS (kyL x.1)), t, .int .i64 z] from ⟨t, rfl, ow_turn ht hgr hoff⟩) i
  refine ⟨⟨P.set i ((x.1, z), [.string (mkS (kyL x.1)), t, .int .i64 z]), by rw [map_set, h1], h2.set rfl i, hrw, ?_⟩, (h4.lt g rfl).1⟩
  rw [List.length_set, hn]
  exact hst.1
theorem putP_idx {f : Int → Int → Int} {r x : Rw} {U : List Rw} {j : Nat} (hx : U[j]? = some x) (hp : atK (kyL r.1) x = true) (hb : ∀ y ∈ U.take j, atK (kyL r.1) y = false) : putP f r U = U.set j (x.1, f x.2 r.2) := by
  obtain ⟨hj, rfl⟩ := List.getElem?_eq_some_iff.1 hx
  have e1 : U = U.take j ++ U[j] :: U.drop (j + 1) := by rw [← List.drop_eq_getElem_cons hj, List.take_append_drop]
  have e2 : U.set j ((U[j]).1, f (U[j]).2 r.2) = U.take j ++ ((U[j]).1, f (U[j]).2 r.2) :: U.drop (j + 1) := by rw [List.set_eq_take_append_cons_drop, if_pos hj]
  rw [e2]
  conv => lhs; rw [e1]
  exact putP_some (fun y hy => by have := hb y hy; unfold atK at this; simpa using this) (by unfold atK at hp; simpa using hp)
theorem grp_step {S : List Rw} {j : Nat} {y : Rw} {k : Int} {b : List By} (h : S[j]? = some y) : grpF k b (S.take (j + 1)) = putP (opK k) (grR k b y) (grpF k b (S.take j)) := by
  unfold grpF
  rw [List.take_add_one, h, List.foldl_append]
  rfl
theorem grp_len (k : Int) (b : List By) (S : List Rw) : (grpF k b S).length ≤ S.length := by
  have e1 : grpF k b S = (S.map (grR k b)).foldl (fun o r => putP (opK k) r o) [] := by
    unfold grpF
    rw [List.foldl_map]
  have h3 := puts_len (f := opK k) (S.map (grR k b)) []
  rw [e1]
  simpa using h3
set_option maxHeartbeats 8000000 in
set_option maxRecDepth 100000 in
theorem group_any (S : List Rw) (y : Ex) (d : Nat) (bs : List By) (v : Value) (now k n0 wd : Int) (um ub ux : Value) (w : World)
    (hub : Sp StrR 1 w ub bs) (hux : Sp (ExD d) 6 w ux [y]) (hum : ∃ a n c, um = .slice a n c) (hvv : ∃ a n c, v = .slice a n c)
    (hG : ∀ r ∈ S, labelF r.1 = 0) (hl : S.length ≤ 1000) (hT : STab w)
    (hev : ∀ W c0 c1 c2 c3 c4 c5, Below w.heap.size w W → ExD d W y [c0, c1, c2, c3, c4, c5] → Calls Tryz.prog 57 #[.agg #[v, .int .i64 now], .agg #[c0, c1, c2, c3, c4, c5]] W (RsP W S)) :
    Calls Tryz.prog 79 #[.agg #[v, .int .i64 now], .agg #[.int .i64 k, .int .i64 n0, .int .i64 wd, um, ub, ux]] w (RsP w (grpF k bs S)) := by
  obtain ⟨av, nv, cv, rfl⟩ := hvv
  obtain ⟨am, nm, cm, rfl⟩ := hum
  obtain ⟨ab, cb, rfl, -, -⟩ := hub.shape
  obtain ⟨nb, hnb⟩ : ∃ n, bs.length = n := ⟨_, rfl⟩
  rw [hnb] at hub ⊢
  obtain ⟨ax, cx, rfl, -, -⟩ := hux.shapeN (show [y].length = 1 from rfl)
  obtain ⟨W, hW⟩ : ∃ W, W = (w.alloc (.cells #[.slice av nv cv, .int .i64 now] 93)).alloc (.cells #[.int .i64 k, .int .i64 n0, .int .i64 wd, .slice am nm cm, .slice ab nb cb, .slice ax 1 cx] 38) := ⟨_, rfl⟩
  have hbW : Below w.heap.size w W := by rw [hW]; exact ((Below.refl _ w).alloc (Nat.le_refl _) _).alloc (by simp) _
  have hsz : W.heap.size = w.heap.size + 1 + 1 := by rw [hW]; simp
  have hb1 : W.heap[w.heap.size]? = some (.cells #[.slice av nv cv, .int .i64 now] 93 (0, 0)) := by rw [hW]; exact two_first w _ _
  have hb2 : W.heap[w.heap.size + 1]? = some (.cells #[.int .i64 k, .int .i64 n0, .int .i64 wd, .slice am nm cm, .slice ab nb cb, .slice ax 1 cx] 38 (0, 0)) := by rw [hW]; exact two_second w _ _
  have hux2 := hux.below (exD_mono d) hbW
  obtain ⟨xb, xo, cs, e9, hy, -, hat⟩ := hux2.headN
  subst e9
  obtain ⟨c0, c1, c2, m0, m1, m2, b0, b1, b2, x0, x1, x2, rfl⟩ := exD_shape hy
  have y0 := hat 0 _ rfl
  have y1 := hat 1 _ rfl
  have y2 := hat 2 _ rfl
  have y3 := hat 3 _ rfl
  have y4 := hat 4 _ rfl
  have y5 := hat 5 _ rfl
  rw [Nat.add_zero] at y0
  obtain ⟨⟨a0, a1⟩, -⟩ := bx2 hb1
  obtain ⟨⟨z0, -, -, -, z4, z5⟩, -⟩ := bx6 hb2
  have HS : Hid (∀ W', Below W.heap.size W W' → W'.cell? ⟨w.heap.size, 0, none⟩ = some (.slice av nv cv) ∧ W'.cell? ⟨w.heap.size, 1, none⟩ = some (.int .i64 now) ∧ W'.cell? ⟨w.heap.size + 1, 5, none⟩ = some (.slice (some ⟨xb, xo, none⟩) 1 cx) ∧ W'.cell? ⟨xb, xo, none⟩ = some (.int .i64 c0) ∧ W'.cell? ⟨xb, xo + 1, none⟩ = some (.int .i64 c1) ∧ W'.cell? ⟨xb, xo + 2, none⟩ = some (.int .i64 c2) ∧ W'.cell? ⟨xb, xo + 3, none⟩ = some (.slice m0 m1 m2) ∧ W'.cell? ⟨xb, xo + 4, none⟩ = some (.slice b0 b1 b2) ∧ W'.cell? ⟨xb, xo + 5, none⟩ = some (.slice x0 x1 x2)) := Lib.hid (fun W' hb =>
    ⟨(hb.cell (p := ⟨_, 0, none⟩) (cell_lt a0)).trans a0, (hb.cell (p := ⟨_, 1, none⟩) (cell_lt a1)).trans a1, (hb.cell (p := ⟨_, 5, none⟩) (cell_lt z5)).trans z5, (hb.cell (p := ⟨_, _, none⟩) (cell_lt y0)).trans y0, (hb.cell (p := ⟨_, _, none⟩) (cell_lt y1)).trans y1, (hb.cell (p := ⟨_, _, none⟩) (cell_lt y2)).trans y2, (hb.cell (p := ⟨_, _, none⟩) (cell_lt y3)).trans y3, (hb.cell (p := ⟨_, _, none⟩) (cell_lt y4)).trans y4, (hb.cell (p := ⟨_, _, none⟩) (cell_lt y5)).trans y5⟩)
  have HD0 := Lib.hid (Below.refl W.heap.size W).drew
  have q0 := HS.out _ HD0.out
  have HEV := Lib.hid (hev W.drew _ _ _ _ _ _ (hbW.trans (HD0.out.mono hbW.size)) (exD_mono d _ _ _ _ hy HD0.out))
  have HUB := Lib.hid (hub.below strR_mono hbW)
  have HT := Lib.hid (hT.below hbW)
  have HX2 := Lib.hid hb2
  have HBW := Lib.hid hbW
  have HSZ := Lib.hid hsz
  have HG := Lib.hid hG
  have HL := Lib.hid hl
  clear hub hux hux2 hy hat y0 y1 y2 y3 y4 y5 a0 a1 z0 z4 z5 hb1 hb2 hbW hsz hG hl hT hev hnb
  go_enter Tryz.func79, Tryz.ntmps79
  go_upto_region 2 with (fail)
  rw [← hW]
  clear hW
  generalize hbx : w.heap.size = bx at *
  go_region_held3 (fun W' => W'.cell? ⟨bx, 0, none⟩ = some (.slice av nv cv) ∧ W'.cell? ⟨bx, 1, none⟩ = some (.int .i64 now) ∧ W'.cell? ⟨bx + 1, 5, none⟩ = some (.slice (some ⟨xb, xo, none⟩) 1 cx) ∧ W'.cell? ⟨xb, xo, none⟩ = some (.int .i64 c0) ∧ W'.cell? ⟨xb, xo + 1, none⟩ = some (.int .i64 c1) ∧ W'.cell? ⟨xb, xo + 2, none⟩ = some (.int .i64 c2) ∧ W'.cell? ⟨xb, xo + 3, none⟩ = some (.slice m0 m1 m2) ∧ W'.cell? ⟨xb, xo + 4, none⟩ = some (.slice b0 b1 b2) ∧ W'.cell? ⟨xb, xo + 5, none⟩ = some (.slice x0 x1 x2)) (first | (with_reducible exact q1) | (with_reducible exact q0) | go_keep) (first
    | (go_at_call 57; refine HEV.out.mono ?_; rintro e w2 ⟨t2, rfl, ho2, hb2⟩; have HO2 := Lib.hid ho2; have hb12 : Below W.heap.size W w2 := HD0.out.trans (hb2.mono HD0.out.size); have q1 := HS.out _ hb12; obtain ⟨o2, k2, rfl, -, -⟩ := ho2.shape; have HB2 := Lib.hid hb12; clear ho2 hb2 hb12))
  clear q0 q1
  obtain ⟨n, hn⟩ : ∃ n, S.length = n := ⟨_, rfl⟩
  rw [hn] at HO2 ⊢
  have HN := Lib.hid hn
  have hn9 : n ≤ 1000 := by rw [← hn]; exact HL.out
  clear hn
  have HX3 := Lib.hid ((HB2.out.block (bx + 1) (Array.getElem?_eq_some_iff.1 HX2.out).1).trans HX2.out)
  have HUB2 := Lib.hid (HUB.out.below strR_mono HB2.out)
  have HT2 := Lib.hid (HT.out.below HB2.out)
  have H00 : Hid (RowsAt w2.heap.size w2 (grpF k bs (S.take 0)) (.slice none 0 0) w2) := Lib.hid ⟨Ow.nil, Below.refl _ _, Nat.le_refl _⟩
  go_wp2_with fail
  go_loopw [5, 19] (fun o i wr => ∃ j : Nat, j ≤ n ∧ i = .int .i64 j ∧ Hid (RowsAt w2.heap.size w2 (grpF k bs (S.take j)) o wr)) (fun _ i _ => n - (intOf i).toNat)
  case atStart => exact ⟨0, Nat.zero_le _, rfl, H00⟩
  case round =>
    obtain ⟨j, hj, rfl, HR⟩ := hrel
    have hBsz : bx ≤ w2.heap.size := by have := HB2.out.size; rw [HSZ.out] at this; omega
    by_cases hlt : j < n
    case neg =>
      obtain rfl : j = n := by omega
      have HE : Hid (RsP w (grpF k bs S) (.returned u5) wr) := Lib.hid (by
        obtain ⟨h1, h2, h3⟩ := HR.out
        rw [List.take_of_length_le (by rw [HN.out]; exact Nat.le_refl _)] at h1
        have hbb : Below w.heap.size w wr := by rw [hbx]; exact (HBW.out.trans (HB2.out.mono (by rw [HSZ.out]; omega))).trans (h2.mono hBsz)
        exact ⟨u5, rfl, rows_low h1 (by rw [hbx]; exact hBsz), hbb⟩)
      go_wp2_with fail
      go_ret
      exact HE.out
    obtain ⟨r, hr⟩ : ∃ r, S[j]? = some r := ⟨_, List.getElem?_eq_getElem (by rw [HN.out]; exact hlt)⟩
    obtain ⟨L, V0⟩ := r
    have HBL := Lib.hid HR.out.2.1
    have hss := HO2.out.sp.below (rwO_mono _) HBL.out
    obtain ⟨rb, ro, cs, e8, ⟨t, rfl, ht⟩, -, hcell⟩ := hss.get hr
    obtain rfl := e8
    obtain ⟨ta, tc, rfl, -, -⟩ := ht.shape
    obtain ⟨tl, htl⟩ : ∃ n, L.length = n := ⟨_, rfl⟩
    have hL0 := HG.out _ (List.mem_of_getElem? hr)
    simp only at ht hcell hL0
    have hL10 : L.length ≤ 10 := labelF_len hL0
    rw [htl] at ht hcell
    have r0 := hcell 0 _ rfl
    have r1 := hcell 1 _ rfl
    have r2 := hcell 2 _ rfl
    rw [Nat.add_zero] at r0
    obtain ⟨K0, hK0⟩ : ∃ K, mkS (kyL L) = K := ⟨_, rfl⟩
    rw [hK0] at r0
    have HBT := Lib.hid HBL.out
    obtain ⟨wb, hwb⟩ : ∃ wb, wb = wr.alloc (.cells #[.string K0, .slice ta tl tc, .int .i64 V0] 98) := ⟨_, rfl⟩
    have hBB : Below wr.heap.size wr wb := by rw [hwb]; exact (Below.refl _ wr).alloc (Nat.le_refl _) _
    have hsb : wb.heap[wr.heap.size]? = some (.cells #[.string K0, .slice ta tl tc, .int .i64 V0] 98 (0, 0)) := by rw [hwb]; exact heap_alloc_new wr _
    have h2b : wb.heap[bx + 1]? = some (.cells #[.int .i64 k, .int .i64 n0, .int .i64 wd, .slice am nm cm, .slice ab nb cb, .slice (some ⟨xb, xo, none⟩) 1 cx] 38 (0, 0)) := (hBB.block (bx + 1) (Nat.lt_of_lt_of_le (Array.getElem?_eq_some_iff.1 HX3.out).1 HBL.out.size)).trans ((HBL.out.block (bx + 1) (Array.getElem?_eq_some_iff.1 HX3.out).1).trans HX3.out)
    have hubb := (HUB2.out.below strR_mono HBL.out).below strR_mono hBB
    have HCL := Lib.hid (clone_lb _ L wb ((ht.sp).below lbR_mono hBB) (by omega))
    have HDL : Hid (∀ W1 t1, Below wb.heap.size wb W1 → Ow LbR 2 75 wb.heap.size W1 t1 L → Calls Tryz.prog 107 #[t1, offV (bx + 1)] W1 (DlLP wb.heap.size wb (byF bs L))) := Lib.hid (fun W1 t1 h1 h2 => by
      have h := dell_any h2b hubb h1 h2 (by omega)
      have e : (L.filter fun x => !offP bs x) = byF bs L := by
        unfold byF offP
        simp
      rw [e] at h
      exact h)
    unfold offV at HDL
    have hF0 : labelF (byF bs L) = 0 := label_filter _ hL0
    have HRF := Lib.hid (fun Wx vx (z : Int) (hb : Below w2.heap.size w2 Wx) (hx : Sp LbR 2 Wx vx (byF bs L)) => rowof_any vx (byF bs L) z Wx hx hF0 (HT2.out.below hb))
    have HRJ := Lib.hid hr
    have HBB := Lib.hid hBB
    have HKB := Lib.hid (And.intro hsb h2b)
    have hmf : ∀ (fn : Fn) (first cap : Array Value) (w : World), (Instr.makeFunc fn first cap).run Tryz.prog w = .ok (.func fn first cap) w := fun _ _ _ _ => rfl
    obtain ⟨U, hU⟩ : ∃ U, grpF k bs (S.take j) = U := ⟨_, rfl⟩
    have hUl : U.length ≤ 1000 := by
      rw [← hU]
      have h1 := grp_len k bs (S.take j)
      have h2 : (S.take j).length ≤ S.length := by rw [List.length_take]; omega
      have := HL.out
      omega
    have HST : Hid (grpF k bs (S.take (j + 1)) = putP (opK k) (grR k bs (L, V0)) U) := Lib.hid (by rw [grp_step hr, hU])
    rw [hU] at HR
    have hj0 : (0 : Int) ≤ (j : Int) := by omega
    have hj1 : (j : Int) < (n : Int) := by omega
    have HUL := Lib.hid hUl
    have HBW2 := Lib.hid (HBL.out.trans (hBB.mono HBL.out.size))
    clear hss hcell ht hr hsb h2b hubb hF0 hL0 hL10 htl hU hUl
    go_upto_region 5 with (fail)
    rw [← hwb]
    clear hwb hBB r0 r1 r2
    obtain ⟨⟨s0, s1, s2⟩, -⟩ := bx3 HKB.out.1
    obtain ⟨⟨z0, -, -, -, -, -⟩, -⟩ := bx6 HKB.out.2
    generalize hby : wr.heap.size = yb at *
    go_wp2_with fail
    refine HCL.out.mono ?_
    rintro e w3 ⟨t3, rfl, ho3, hb3⟩
    have HDL3 := Lib.hid (HDL.out w3 t3 hb3 ho3)
    obtain ⟨o3, k3, rfl, -, -⟩ := ho3.sp.shapeN (show L.length = L.length from rfl)
    clear ho3 hb3
    go_wp2_with fail
    refine HDL3.out.mono ?_
    rintro e w4 ⟨t4, rfl, ho4, hb4⟩
    obtain ⟨⟨s0, s1, s2⟩, -⟩ := bx3 ((hb4.block yb (Array.getElem?_eq_some_iff.1 HKB.out.1).1).trans HKB.out.1)
    obtain ⟨⟨z0, -, -, -, -, -⟩, -⟩ := bx6 ((hb4.block (bx + 1) (Array.getElem?_eq_some_iff.1 HKB.out.2).1).trans HKB.out.2)
    have HB4 := Lib.hid (HBW2.out.trans (hb4.mono HBW2.out.size))
    have HR4 := Lib.hid (HR.out.below (by rw [hby]; exact HBB.out.trans (hb4.mono (by rw [← hby]; exact HBB.out.size))))
    have HO4 := Lib.hid ho4
    obtain ⟨o4, k4, rfl, -, -⟩ := ho4.sp.shape
    obtain ⟨l4, hl4⟩ : ∃ n, (byF bs L).length = n := ⟨_, rfl⟩
    rw [hl4] at HO4 ⊢
    have HL4 := Lib.hid hl4
    clear ho4 hb4 hl4
    obtain ⟨V, hV⟩ : ∃ V : Int, V = if k = 5 then 1 else V0 := ⟨_, rfl⟩
    have HV := Lib.hid hV
    clear hV
    go_upto_if 34 with (fail)
    go_cut [9] (fun x wx => x = .int .i64 V ∧ w4 = wx)
    case first =>
      by_cases h5 : k = 5
      · obtain rfl : V = 1 := by rw [HV.out, if_pos h5]
        have t1 : (k == 5) = true := by rw [h5]; rfl
        clear h5
        go_wp2_with fail
        go_meet
        exact ⟨rfl, rfl⟩
      · obtain rfl : V = V0 := by rw [HV.out, if_neg h5]
        have t1 : (k == 5) = false := beq_eq_false_iff_ne.2 h5
        clear h5
        go_wp2_with fail
        go_meet
        exact ⟨rfl, rfl⟩
    obtain ⟨rfl, hwx⟩ := hcut
    subst hwx
    have HRF4 := Lib.hid (HRF.out w4 (.slice o4 l4 k4) V HB4.out (by rw [← HL4.out] at HO4 ⊢; exact HO4.out.sp))
    go_wp2_with fail
    refine HRF4.out.mono ?_
    rintro e w5 ⟨t5, rfl, ho5, hb5⟩
    have HB5 := Lib.hid (HB4.out.trans (hb5.mono HB4.out.size))
    have HR5 := Lib.hid (HR4.out.below hb5)
    have HO5 := Lib.hid ho5
    obtain ⟨o5, k5, rfl, -, -⟩ := ho5.sp.shapeN HL4.out
    obtain ⟨Z0, hZ0⟩ : ∃ K, mkS (kyL (byF bs L)) = K := ⟨_, rfl⟩
    have hb5l := hb5.size
    have HZB : Hid (w5.cell? ⟨yb, 0, none⟩ = w4.cell? ⟨yb, 0, none⟩) := Lib.hid (hb5.cell (p := ⟨yb, 0, none⟩) (cell_lt s0))
    obtain ⟨⟨z0, -, -, -, -, -⟩, -⟩ := bx6 ((HB5.out.block (bx + 1) (Nat.lt_of_lt_of_le (Array.getElem?_eq_some_iff.1 HX3.out).1 (Nat.le_refl _))).trans HX3.out)
    rw [hZ0]
    obtain ⟨wz, hwz⟩ : ∃ wz, wz = w5.alloc (.cells #[.string Z0, .slice o5 l4 k5, .int .i64 V] 98) := ⟨_, rfl⟩
    have hbz : Below w5.heap.size w5 wz := by rw [hwz]; exact (Below.refl _ w5).alloc (Nat.le_refl _) _
    have hxz : wz.heap[w5.heap.size]? = some (.cells #[.string Z0, .slice o5 l4 k5, .int .i64 V] 98 (0, 0)) := by rw [hwz]; exact heap_alloc_new w5 _
    have HRz := Lib.hid (HR5.out.below hbz)
    have HBz := Lib.hid (HB5.out.trans (hbz.mono HB5.out.size))
    have HIX := Lib.hid (idxr_any (S := kyL (byF bs L)) (by rw [hZ0]; exact hxz) HRz.out.1.sp)
    have HXZ := Lib.hid hxz
    have HOz := Lib.hid (HO5.out.below lbR_mono hbz)
    obtain ⟨⟨-, -, -, -, -, -⟩, -⟩ := bx6 ((HBz.out.block (bx + 1) (Array.getElem?_eq_some_iff.1 HX3.out).1).trans HX3.out)
    clear ho5 hb5 hb5l hbz hxz s0 s1 s2 z0
    obtain ⟨uo, uc, rfl, -, -⟩ := HRz.out.1.sp.shape
    obtain ⟨ul, hul⟩ : ∃ n, U.length = n := ⟨_, rfl⟩
    have hUl := HUL.out
    rw [hul] at HRz HIX hUl ⊢
    have HUN := Lib.hid hul
    clear hul
    unfold keyV at HIX
    go_upto_region 10 with (fail)
    rw [← hwz]
    clear hwz
    generalize hbz : w5.heap.size = zb at *
    go_wp2_with fail
    refine HIX.out.mono ?_
    rintro e w6 ⟨ix, rfl, hix, hb6⟩
    have HB6 := Lib.hid (HBz.out.trans (hb6.mono HBz.out.size))
    have HR6 := Lib.hid (HRz.out.below hb6)
    have HO6 := Lib.hid (HOz.out.below lbR_mono hb6)
    obtain ⟨⟨f0, f1, f2⟩, -⟩ := bx3 ((hb6.block zb (Array.getElem?_eq_some_iff.1 HXZ.out).1).trans HXZ.out)
    obtain ⟨⟨z0, -, -, -, -, -⟩, -⟩ := bx6 ((HB6.out.block (bx + 1) (Array.getElem?_eq_some_iff.1 HX3.out).1).trans HX3.out)
    have HGR : Hid (grR k bs (L, V0) = (byF bs L, V)) := Lib.hid (by unfold grR; rw [HV.out])
    clear hb6
    rcases hix with ⟨rfl, hall⟩ | ⟨jj, x, rfl, hx, hp, hb⟩
    · have HST2 : Hid (grpF k bs (S.take (j + 1)) = U ++ [(byF bs L, V)]) := Lib.hid (by
        rw [HST.out, HGR.out]
        exact putP_none (fun y hy => by have := hall y hy; unfold atK at this; simpa using this))
      obtain ⟨P, hP1, hP2, hP3, hrow⟩ := HR6.out.1
      rw [HUN.out] at hrow
      have HPP := Lib.hid (And.intro hP1 (And.intro hP2 hP3))
      have hbel6 : Below w2.heap.size w2 w6 := HB6.out
      have hsz6 : w2.heap.size ≤ w6.heap.size := HB6.out.size
      clear hall hP1 hP2 hP3
      go_wp2_with (at_builtin; refine append1 [.string Z0, .slice o5 l4 k5, .int .i64 V] elRw rfl _ _ rfl hrow hbel6 hsz6 rfl rfl rfl (by intro x hx; simp at hx; rcases hx with rfl | rfl | rfl <;> rfl) ?c4 ?c5 ?_)
      case c4 => omega
      case c5 => omega
      intro v7 w7 hown7 hbel7 hgr7
      obtain ⟨o7, c7, rfl, -, -, -⟩ := own_shape hown7
      have HR7 : Hid (RowsAt w2.heap.size w2 (grpF k bs (S.take (j + 1))) (.slice o7 (ul + 1) c7) w7) := Lib.hid (by
        rw [HST2.out]
        refine ⟨?_, hbel7, Nat.le_trans hsz6 hgr7.size⟩
        have h3 : RwO w2.heap.size w6 (byF bs L, V) [.string Z0, .slice o5 l4 k5, .int .i64 V] := ⟨_, by rw [hZ0], HO6.out.mono HB4.out.size⟩
        exact Ow.snoc (rw_grow _) HPP.out.1 HPP.out.2.1 HPP.out.2.2 hrow HUN.out.symm hgr7 hown7 rfl h3)
      clear hown7 hbel7 hgr7 hrow hbel6 hsz6 f0 f1 f2 z0
      go_wp2_with fail
      go_roundw
      case rel => exact ⟨j + 1, by omega, by go_num, HR7⟩
      case measure => simp [intOf]; omega
    · have HST2 : Hid (grpF k bs (S.take (j + 1)) = U.set jj (x.1, opK k x.2 V)) := Lib.hid (by
        rw [HST.out, HGR.out]
        exact putP_idx hx hp hb)
      have hjl := (List.getElem?_eq_some_iff.1 hx).1
      rw [HUN.out] at hjl
      obtain ⟨ug, rfl⟩ : ∃ g, uo = some ⟨g, 0, none⟩ := by
        obtain ⟨P, -, -, -, h4⟩ := HR6.out.1
        rw [HUN.out] at h4
        exact Lab.own_some h4 (by omega)
      obtain ⟨x2, xf⟩ := rw_el HR6.out.1 HUN.out hx
      obtain ⟨x1, x2v⟩ := x
      simp only at x2
      have x2' : w6.cell? ⟨ug, jj * 3 + 1 + 1, none⟩ = some (.int .i64 x2v) := x2
      have xf' : w6.frozen? ⟨ug, jj * 3 + 1 + 1, none⟩ = false := xf
      have t1 : ¬ ((jj : Int) < 0) := by omega
      have hj0 : (0 : Int) ≤ (jj : Int) := by omega
      have hj1 : (jj : Int) < (ul : Int) := by omega
      have HRW : Hid (∀ z : Int, z = opK k x2v V → RowsAt w2.heap.size w2 (grpF k bs (S.take (j + 1))) (.slice (some ⟨ug, 0, none⟩) ul uc) (w6.setCell ⟨ug, jj * 3 + 1 + 1, none⟩ (.int .i64 z))) := Lib.hid (fun z hz => by
        subst hz
        have h := rw_over (z := opK k x2v V) HR6.out.1 HUN.out hx
        rw [HST2.out]
        exact ⟨h.1, HR6.out.2.1.setCell (by exact h.2) _, Nat.le_trans HR6.out.2.2 (by simp [World.setCell])⟩)
      clear hx hp hb x2 xf
      by_cases h4 : k = 4
      · have t2 : (k == 4) = true := by rw [h4]; rfl
        have HOP : Hid (∀ a b, opK k a b = max a b) := Lib.hid (fun a b => if_pos h4)
        clear h4
        go_wp2_with fail
        go_roundw
        case rel => exact ⟨j + 1, by omega, by go_num, Lib.hid (HRW.out _ (by rw [HOP.out]))⟩
        case measure => simp [intOf]; omega
      · have t2 : (k == 4) = false := beq_eq_false_iff_ne.2 h4
        have HOP : Hid (∀ a b, opK k a b = IntKind.i64.wrap (a + b)) := Lib.hid (fun a b => if_neg h4)
        clear h4
        go_wp2_with fail
        go_roundw
        case rel => exact ⟨j + 1, by omega, by go_num, Lib.hid (HRW.out _ (by rw [HOP.out, IntWalk.i64_left]))⟩
        case measure => simp [intOf]; omega
end Go.Proofs.YtjmplhkdohlbcaaGreatDoor.Evl
/-
  append of one element to a row of one's own, as one step of a region that draws; and where the new row lies.
-/
namespace Go.Gh.Clr
open Go.RowKit Go.Gh Go.Maps
set_option linter.unusedVariables false
theorem step_app_at {P : Program} {ops : Array Oper} {o : Oper} {a : Act} {K : Act → World → Prop} {Q : Exit → Act → World → Prop} {E : Prop} {W : World} {B : Nat} {t e : TypeId} {size bytes n m c : Nat} {ad : Addr} {xs news : List Value} {v : Value}
    (el : Elem P t e size bytes) (hgd : o.guard = none) (s x : Operand) (ho : o.op = .call { callee := .builtin .append, args := #[s, x], argTypes := #[t, t] })
    (hown : W.ownsRow B e size v n xs) (hs : a.eval s = v) (hx : a.eval x = .slice (some ad) m c) (hl : news.length = m * size) (hnews : ∀ j u, news[j]? = some u → W.cell? (ad.add j) = some u) (h1 : ∀ u ∈ news, u.oneCell' = true) (h47 : (n + m) * bytes ≤ 140737488355328) (h63 : n + m ≤ 9223372036854775807) (hB : B ≤ W.heap.size)
    (h : ∀ v' w', w'.ownsRow B e size v' (n + m) (xs ++ news) → W.grownBy w' v.ownBlock → (v'.ownBlock = v.ownBlock ∨ v'.ownBlock = some W.heap.size) → K (a.put o.dst v') w') :
    if Region.wanted o (yielded ops a.tmps) = true then Oper.wp P o a W K Q else E := by
  have hw : Region.wanted o (yielded ops a.tmps) = true := by unfold Region.wanted; rw [hgd]
  rw [if_pos hw]
  obtain ⟨i, z, h2, h3, h4, h5, h6⟩ := el.info
  obtain ⟨v', w', hr, r1, r2, -, r3⟩ := run_append_own_at (P := P) W B t o.type e i z size bytes el.und h2 h3 h4 h5 h6 el.pos v n xs hown ad m c news hl hnews h1 (by unfold maxLen; exact h63) h47 hB
  unfold Oper.wp execOp
  simp only [ho, resolve, invoke, builtin, Sem.run_bind, Sem.run_pure, Result.andThen_ok, List.map_toArray, List.map_cons, List.map_nil, hs, hx, hr]
  exact h v' w' r1 r2 r3
theorem step_app2 {P : Program} {ops : Array Oper} {o : Oper} {a : Act} {K : Act → World → Prop} {Q : Exit → Act → World → Prop} {E : Prop} {w0 W : World} {B Bo : Nat} {t e : TypeId} {size bytes n : Nat} {xs : List Value} {v : Value} (cells : List Value)
    (el : Elem P t e size bytes) (hgd : o.guard = none) (s x : Operand) (ho : o.op = .call { callee := .builtin .append, args := #[s, x], argTypes := #[t, t] })
    (hown : W.ownsRow Bo e size v n xs) (hbel : Below B w0 W) (hBo : B ≤ Bo) (hB : Bo ≤ W.heap.size) (hs : a.eval s = v) (hx : a.eval x = .slice (some ⟨W.heap.size, 0, none⟩) 1 1)
    (hl : cells.length = size) (h1 : ∀ u ∈ cells, u.oneCell' = true) (h47 : (n + 1) * bytes ≤ 140737488355328) (h63 : n + 1 ≤ 9223372036854775807)
    (h : ∀ g cap w', w'.ownsRow Bo e size (.slice (some ⟨g, 0, none⟩) (n + 1) cap) (n + 1) (xs ++ cells) → Below B w0 w' → W.grownBy w' v.ownBlock → (some g = v.ownBlock ∨ W.heap.size ≤ g) → K (a.put o.dst (.slice (some ⟨g, 0, none⟩) (n + 1) cap)) w') :
    if Region.wanted o (yielded ops a.tmps) = true then Oper.wp P o a (W.alloc (.cells cells.toArray e)) K Q else E := by
  refine step_app_at el hgd s x ho (hown.alloc _) hs hx (by rw [Nat.one_mul]; exact hl) (fresh_cells W cells e) h1 h47 h63 (by simp; omega) ?_
  intro v' w' hown' hg hat
  have hg' := grown_trans (World.grownBy_alloc W (Obj.cells cells.toArray e) v.ownBlock) hg
  obtain ⟨g, cap, rfl, -⟩ := own_some hown' (by omega)
  refine h g cap w' hown' (below_own hown hbel hBo (by omega) hg') hg' ?_
  rcases hat with hat | hat
  · exact Or.inl hat
  · refine Or.inr ?_
    simp [Value.ownBlock] at hat
    omega
theorem append2 {P : Program} {ops : Array Oper} {rest : List Oper} {o : Oper} {a : Act} {Q : Exit → Act → World → Prop} {w0 W : World} {B : Nat} {t e : TypeId} {size bytes n : Nat} {xs : List Value} {v : Value} (cells : List Value)
    (el : Elem P t e size bytes) (hgd : o.guard = none) (s x : Operand) (ho : o.op = .call { callee := .builtin .append, args := #[s, x], argTypes := #[t, t] })
    (hown : W.ownsRow B e size v n xs) (hbel : Below B w0 W) (hB : B ≤ W.heap.size) (hs : a.eval s = v) (hx : a.eval x = .slice (some ⟨W.heap.size, 0, none⟩) 1 1)
    (hl : cells.length = size) (h1 : ∀ u ∈ cells, u.oneCell' = true) (h47 : (n + 1) * bytes ≤ 140737488355328) (h63 : n + 1 ≤ 9223372036854775807)
    (h : ∀ g cap w', w'.ownsRow B e size (.slice (some ⟨g, 0, none⟩) (n + 1) cap) (n + 1) (xs ++ cells) → Below B w0 w' → W.grownBy w' v.ownBlock → (some g = v.ownBlock ∨ W.heap.size ≤ g) → wpList P ops Q rest (a.put o.dst (.slice (some ⟨g, 0, none⟩) (n + 1) cap)) w') :
    wpList P ops Q (o :: rest) a (W.alloc (.cells cells.toArray e)) := by
  refine wpList_plain hgd fun K hK => ?_
  obtain ⟨i, z, h2, h3, h4, h5, h6⟩ := el.info
  obtain ⟨v', w', hr, r1, r2, -, r3⟩ := run_append_own_at (P := P) (W.alloc (.cells cells.toArray e)) B t o.type e i z size bytes el.und h2 h3 h4 h5 h6 el.pos v n xs (hown.alloc _) ⟨W.heap.size, 0, none⟩ 1 1 cells (by rw [Nat.one_mul]; exact hl) (fresh_cells W cells e) h1 (by unfold maxLen; exact h63) h47 (by simp; omega)
  have hg' := grown_trans (World.grownBy_alloc W (Obj.cells cells.toArray e) v.ownBlock) r2
  obtain ⟨g, cap, rfl, -⟩ := own_some r1 (by omega)
  unfold Oper.wp execOp
  simp only [ho, resolve, invoke, builtin, Sem.run_bind, Sem.run_pure, Result.andThen_ok, List.map_toArray, List.map_cons, List.map_nil, hs, hx, hr]
  refine hK _ _ (h g cap w' r1 (below_own hown hbel (Nat.le_refl _) hB hg') hg' ?_)
  rcases r3 with hat | hat
  · exact Or.inl hat
  · refine Or.inr ?_
    simp [Value.ownBlock] at hat
    omega
end Go.Gh.Clr
