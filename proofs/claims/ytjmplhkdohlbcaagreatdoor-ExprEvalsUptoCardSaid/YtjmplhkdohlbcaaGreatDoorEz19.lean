/-
  Asked: the walks of the sums (PRINTED by mkev12.py).
-/
import Derived.Test.YtjmplhkdohlbcaaGreatDoorEz1
import Derived.Test.YtjmplhkdohlbcaaGreatDoorEz18
import Derived.Test.YtjmplhkdohlbcaaGreatDoorProg
import Derived.LoopTactic
import Derived.Outline
namespace Go.Proofs.YtjmplhkdohlbcaaGreatDoor.Evl
open Go.RowKit Go.Gh Go.Gh.Clr Go.WideShapes Go.Proofs.YtjmplhkdohlbcaaGreatDoor.Lab Go.Proofs.YtjmplhkdohlbcaaGreatDoor.Exp
set_option linter.unusedVariables false
set_option linter.unusedSimpArgs false
theorem byR_step {b : List By} {L : List Lb} {i : Nat} {x : Lb} (h : L[i]? = some x) : byR b (L.take (i + 1)) = byR b (L.take i) ++ byR1 b x := by
  unfold byR
  rw [List.take_add_one, h, List.flatMap_append]
  simp
theorem byR1_step {b : List By} {j : Nat} {s : By} {x : Lb} (h : b[j]? = some s) : byR1 (b.take (j + 1)) x = byR1 (b.take j) x ++ if s = x.nm then [x] else [] := by
  unfold byR1
  rw [List.take_add_one, h, List.filter_append, List.map_append]
  by_cases e : s = x.nm
  · simp [e]
  · simp [e]
theorem byR_len (b : List By) : ∀ (L : List Lb), (byR b L).length ≤ L.length * b.length
  | [] => by simp [byR]
  | x :: L => by
    have h := byR_len b L
    have e : byR b (x :: L) = byR1 b x ++ byR b L := by unfold byR; rw [List.flatMap_cons]
    have h2 : (byR1 b x).length ≤ b.length := by unfold byR1; rw [List.length_map]; exact List.length_filter_le _ _
    rw [e, List.length_append, List.length_cons, Nat.succ_mul]
    omega
theorem byR1_len (b : List By) (x : Lb) : (byR1 b x).length ≤ b.length := by unfold byR1; rw [List.length_map]; exact List.length_filter_le _ _
theorem grpk_fine {k : Int} {b : List By} {S : List Rw} (hb : b.Pairwise (· < ·)) (h : ∀ r ∈ S, labelF r.1 = 0) : ∀ j, j ≤ S.length → FineN j ((S.take j).foldl (fun o y => moreF (opK k) (gdR k b y) o) [])
  | 0, _ => ⟨asc_nil, fun x hx => by simp at hx, Nat.le_refl _⟩
  | j + 1, hj => by
    have hs : S[j]? = some S[j] := List.getElem?_eq_getElem (by omega)
    rw [fold_step (f := fun o y => moreF (opK k) (gdR k b y) o) hs]
    refine mo_fine (grpk_fine hb h j (by omega)) ?_
    show labelF (byR b (S[j]).1) = 0
    rw [byR_is hb]
    exact label_filter _ (h _ (List.getElem_mem _))
theorem ow_lbs_snoc {B n : Nat} {w w' : World} {oo : Option Addr} {oc : Nat} {L : List Lb} {x : Lb} {v' : Value} {P : List (Lb × List Value)} (h : P.map (·.1) = L ∧ PK 2 P ∧ ∀ p ∈ P, LbR w p.1 p.2) (hrow : w.ownsRow B 75 2 (.slice oo n oc) n (pc P)) (hn : L.length = n)
    (hg : w.grownBy w' (Value.slice oo n oc).ownBlock) (hown : w'.ownsRow B 75 2 v' (n + 1) (pc P ++ [.string (mkS x.nm), .string (mkS x.vl)])) (hx : LbR w x [.string (mkS x.nm), .string (mkS x.vl)]) : Ow LbR 2 75 B w' v' (L ++ [x]) :=
  Ow.snoc (lbR_grow _ _ _) h.1 h.2.1 h.2.2 hrow hn.symm hg hown rfl hx
set_option maxHeartbeats 16000000 in
set_option maxRecDepth 100000 in
theorem asked_grp3 (S : List Rw) (y : Ex) (d : Nat) (bs : List By) (now k1 wd : Int) (um ub ux v : Value) (w : World)
    (hub : Sp StrR 1 w ub bs) (hux : Sp (ExD d) 6 w ux [y]) (hum : ∃ a n c, um = .slice a n c) (hvv : ∃ a n c, v = .slice a n c) (hbs : bs.Pairwise (· < ·)) (hb10 : bs.length ≤ 10)
    (hG : ∀ r ∈ S, labelF r.1 = 0) (hl : S.length ≤ 1000)
    (hev : ∀ W c0 c1 c2 c3 c4 c5, Below w.heap.size w W → ExD d W y [c0, c1, c2, c3, c4, c5] → Calls Tryz.prog 32 #[.agg #[c0, c1, c2, c3, c4, c5], v, .int .i64 now] W (AsP W S)) :
    Calls Tryz.prog 32 #[.agg #[.int .i64 3, .int .i64 k1, .int .i64 wd, um, ub, ux], v, .int .i64 now] w (AsP w (grpR 3 bs S)) := by
  obtain ⟨av, nv, cv, rfl⟩ := hvv
  obtain ⟨am, nm, cm, rfl⟩ := hum
  obtain ⟨nb, hnb⟩ : ∃ n, bs.length = n := ⟨_, rfl⟩
  obtain ⟨ab, cb, rfl, -, -⟩ := hub.shapeN hnb
  obtain ⟨ax, cx, rfl, -, -⟩ := hux.shapeN (show [y].length = 1 from rfl)
  obtain ⟨wa, hwa, hbox, hba, hsa⟩ := box_ex w (.int .i64 3) (.int .i64 k1) (.int .i64 wd) (.slice am nm cm) (.slice ab nb cb) (.slice ax 1 cx)
  have hux2 := hux.below (exD_mono d) hba
  obtain ⟨xb, xo, cs, e9, hy, -, hat⟩ := hux2.headN
  subst e9
  obtain ⟨c0, c1, c2, m0, m1, m2, b0, b1, b2, x0, x1, x2, rfl⟩ := exD_shape hy
  have y0 := hat 0 _ rfl
  have y1 := hat 1 _ rfl
  have y2 := hat 2 _ rfl
  have y3 := hat 3 _ rfl
  have y4 := hat 4 _ rfl
  have y5 := hat 5 _ rfl
  rw [Nat.add_zero] at y0
  have HEV := Lib.hid (hev wa _ _ _ _ _ _ hba hy)
  have HUB := Lib.hid (fun W (hb : Below w.heap.size w W) => hub.below strR_mono hb)
  have HWA := Lib.hid hwa
  have HBA := Lib.hid hba
  have HX := Lib.hid hbox
  have HG := Lib.hid hG
  have HBS := Lib.hid hbs
  have HNB := Lib.hid hnb
  rw [hnb] at hb10
  have hw9 : w.heap.size ≤ wa.heap.size := by omega
  obtain ⟨⟨d0, -, -, -, -, d5⟩, -⟩ := bx6 hbox
  obtain ⟨m, hm⟩ : ∃ n, S.length = n := ⟨_, rfl⟩
  rw [hm] at hl
  have HM := Lib.hid hm
  clear hub hux hux2 hy hat hwa hbox hba hsa hG hbs hnb hm hev
  go_enter Tryz.func32, Tryz.ntmps32
  go_upto_region 3 with (fail)
  rw [← HWA.out]
  generalize hbx : w.heap.size = bx at *
  go_wp2_with fail
  refine HEV.out.mono ?_
  rintro e w2 ⟨v2, rfl, hs2, hb2⟩
  obtain ⟨so, sc, rfl, -, -⟩ := hs2.shapeN HM.out
  have HS2 := Lib.hid hs2
  have HB2 := Lib.hid (HBA.out.trans (hb2.mono hw9))
  have HX2 := Lib.hid ((hb2.block bx (Array.getElem?_eq_some_iff.1 HX.out).1).trans HX.out)
  have H00 : Hid (AsAt w ((S.take 0).foldl (fun o y => moreF (opK 3) (gdR 3 bs y) o) []) (.slice none 0 0) w2) := Lib.hid ⟨Sp.nil, by rw [hbx]; exact HB2.out⟩
  clear hs2 hb2 d0 d5 y0 y1 y2 y3 y4 y5
  go_wp2_with fail
  go_loopw [7, 95] (fun o i wr => ∃ k : Nat, k ≤ m ∧ i = .int .i64 k ∧ Hid (AsAt w ((S.take k).foldl (fun o y => moreF (opK 3) (gdR 3 bs y) o) []) o wr) ∧ Hid (Below w2.heap.size w2 wr)) (fun _ i _ => m - (intOf i).toNat)
  case atStart => exact ⟨0, Nat.zero_le _, rfl, H00, Lib.hid (Below.refl _ _)⟩
  case round =>
  obtain ⟨k, hk, rfl, HR, HB⟩ := hrel
  by_cases hlt : k < m
  case neg =>
    obtain rfl : k = m := by omega
    have HE : Hid (AsP w (grpR 3 bs S) (.returned u7) wr) := Lib.hid (by
      have h := HR.out
      rw [List.take_of_length_le (by rw [HM.out]; exact Nat.le_refl _)] at h
      exact ⟨u7, rfl, h.1, h.2⟩)
    go_wp2_with fail
    go_ret
    exact HE.out
  obtain ⟨r, hr⟩ : ∃ r, S[k]? = some r := ⟨_, List.getElem?_eq_getElem (by rw [HM.out]; exact hlt)⟩
  obtain ⟨L, V⟩ := r
  obtain ⟨sb, sof, cs, e8, ⟨t, rfl, ht⟩, -, hcell⟩ := (HS2.out.below rdR_mono HB.out).get hr
  obtain rfl := e8
  simp only at ht hcell
  have hL0 : labelF L = 0 := HG.out _ (List.mem_of_getElem? hr)
  have hL10 := labelF_len hL0
  obtain ⟨tl, htl⟩ : ∃ n, L.length = n := ⟨_, rfl⟩
  obtain ⟨ta, tc, rfl, -, -⟩ := ht.shapeN htl
  rw [htl] at hL10
  have c0 := hcell 0 _ rfl
  have c1 := hcell 1 _ rfl
  rw [Nat.add_zero] at c0
  have HNX := Lib.hid (fold_step (f := fun o y => moreF (opK 3) (gdR 3 bs y) o) (o := []) hr)
  obtain ⟨R, hR⟩ : ∃ R, (S.take k).foldl (fun o y => moreF (opK 3) (gdR 3 bs y) o) [] = R := ⟨_, rfl⟩
  have HFN := Lib.hid (grpk_fine (k := 3) HBS.out HG.out k (by rw [HM.out]; omega))
  rw [hR] at HR HNX HFN
  obtain ⟨wb, hwb⟩ : ∃ wb, wb = wr.alloc (.cells #[.slice ta tl tc, .int .i64 V] 96) := ⟨_, rfl⟩
  have hBB : Below wr.heap.size wr wb := by rw [hwb]; exact (Below.refl _ wr).alloc (Nat.le_refl _) _
  have hsb : wb.heap[wr.heap.size]? = some (.cells #[.slice ta tl tc, .int .i64 V] 96 (0, 0)) := by rw [hwb]; exact heap_alloc_new wr _
  have HRb := Lib.hid (HR.out.below hBB)
  have HBb := Lib.hid (HB.out.trans (hBB.mono HB.out.size))
  have HTT := Lib.hid (ht.below lbR_mono hBB)
  have HTL := Lib.hid htl
  have HL0 := Lib.hid hL0
  have HSB := Lib.hid hsb
  have HXb := Lib.hid ((HBb.out.block bx (Array.getElem?_eq_some_iff.1 HX2.out).1).trans HX2.out)
  have HUBb := Lib.hid (HUB.out wb (by rw [← hbx]; exact HRb.out.2))
  obtain ⟨⟨s0, s1⟩, -⟩ := bx2 hsb
  have hk0 : (0 : Int) ≤ (k : Int) := by omega
  have hk1 : (k : Int) < (m : Int) := by omega
  have HL00 : Hid (Ow LbR 2 75 wb.heap.size wb (.slice none 0 0) (byR bs (L.take 0))) := Lib.hid Ow.nil
  clear hcell ht hr htl hR hL0 hsb
  go_upto_region 26 with (fail)
  rw [← hwb]
  clear hwb hBB c0 c1
  generalize hby : wr.heap.size = yb at *
  clear HR HB
  go_wp2_with fail
  go_loopw [15, 102] (fun o i wr => ∃ i' : Nat, i' ≤ tl ∧ i = .int .i64 i' ∧ Hid (Ow LbR 2 75 wb.heap.size wr o (byR bs (L.take i'))) ∧ Hid (Below wb.heap.size wb wr)) (fun _ i _ => tl - (intOf i).toNat)
  case atStart => exact ⟨0, Nat.zero_le _, rfl, HL00, Lib.hid (Below.refl _ _)⟩
  case round =>
  obtain ⟨i, hi, rfl, HLI, HBI⟩ := hrel
  by_cases hlti : i < tl
  case pos =>
    obtain ⟨x, hx⟩ : ∃ x, L[i]? = some x := ⟨_, List.getElem?_eq_getElem (by rw [HTL.out]; exact hlti)⟩
    obtain ⟨lb, lo, cs, e8, hlx, -, hcell⟩ := (HTT.out.below lbR_mono HBI.out).get hx
    obtain rfl := e8
    obtain ⟨rfl, hlx1, hlx2⟩ := hlx
    have c0 := hcell 0 _ rfl
    have c1 := hcell 1 _ rfl
    rw [Nat.add_zero] at c0
    have HXS := Lib.hid (byR_step (b := bs) hx)
    have HLX : Hid (∀ W, LbR W x [.string (mkS x.nm), .string (mkS x.vl)]) := Lib.hid (fun W => ⟨rfl, hlx1, hlx2⟩)
    obtain ⟨wc, hwc⟩ : ∃ wb, wb = wr.alloc (.cells #[.string (mkS x.nm), .string (mkS x.vl)] 75) := ⟨_, rfl⟩
    have hBC : Below wr.heap.size wr wc := by rw [hwc]; exact (Below.refl _ wr).alloc (Nat.le_refl _) _
    have hsc : wc.heap[wr.heap.size]? = some (.cells #[.string (mkS x.nm), .string (mkS x.vl)] 75 (0, 0)) := by rw [hwc]; exact heap_alloc_new wr _
    obtain ⟨P0, hP0⟩ : ∃ A, byR bs (L.take i) = A := ⟨_, rfl⟩
    have hP0l : P0.length ≤ 100 := by
      rw [← hP0]
      have h1 := byR_len bs (L.take i)
      have h2 : (L.take i).length ≤ 10 := by rw [List.length_take, HTL.out]; omega
      have h3 : (L.take i).length * bs.length ≤ 10 * 10 := Nat.mul_le_mul h2 (by rw [HNB.out]; exact hb10)
      omega
    rw [hP0] at HLI HXS
    have HLc := Lib.hid (HLI.out.below lbR_mono hBC)
    have HBc := Lib.hid (HBI.out.trans (hBC.mono HBI.out.size))
    have hne0 : u15.ownBlock ≠ some wr.heap.size := fun e => by
      obtain ⟨P, -, -, -, h4⟩ := HLI.out
      have := (h4.lt _ e).2
      omega
    have HI0 : Hid (Ow LbR 2 75 wb.heap.size wc u15 (P0 ++ byR1 (bs.take 0) x) ∧ Below wb.heap.size wb wc ∧ wc.heap[wr.heap.size]? = some (.cells #[.string (mkS x.nm), .string (mkS x.vl)] 75 (0, 0)) ∧ u15.ownBlock ≠ some wr.heap.size) := Lib.hid ⟨by
      have e : byR1 (bs.take 0) x = [] := rfl
      rw [e, List.append_nil]; exact HLc.out, HBc.out, hsc, hne0⟩
    obtain ⟨X0, hX0⟩ : ∃ Q, mkS x.nm = Q := ⟨_, rfl⟩
    obtain ⟨X1, hX1⟩ : ∃ Q, mkS x.vl = Q := ⟨_, rfl⟩
    rw [hX0] at c0 hwc
    rw [hX1] at c1 hwc
    rw [hX0, hX1] at HI0 HLX
    have HX0 := Lib.hid (And.intro hX0 hX1)
    have hi0 : (0 : Int) ≤ (i : Int) := by omega
    have hi1 : (i : Int) < (tl : Int) := by omega
    obtain ⟨⟨-, -, -, -, z4, -⟩, -⟩ := bx6 ((HBc.out.block bx (Array.getElem?_eq_some_iff.1 HXb.out).1).trans HXb.out)
    clear hcell hx hsc hP0 hX0 hX1 hne0 hlx1 hlx2
    go_upto_region 29 with (fail)
    rw [← hwc]
    clear hwc c0 c1 hBC
    generalize hbz : wr.heap.size = zb at *
    clear HLI HBI
    go_wp2_with fail
    go_loopw [15, 109] (fun o q wr => ∃ j : Nat, j ≤ nb ∧ q = .int .i64 j ∧ Hid (Ow LbR 2 75 wb.heap.size wr o (P0 ++ byR1 (bs.take j) x) ∧ Below wb.heap.size wb wr ∧ wr.heap[zb]? = some (.cells #[.string X0, .string X1] 75 (0, 0)) ∧ o.ownBlock ≠ some zb)) (fun _ q _ => nb - (intOf q).toNat)
    case atStart => exact ⟨0, Nat.zero_le _, rfl, HI0⟩
    case round =>
    obtain ⟨j, hj, rfl, HQ⟩ := hrel
    by_cases hltj : j < nb
    case neg =>
      obtain rfl : j = nb := by omega
      have HLN : Hid (Ow LbR 2 75 wb.heap.size wr u15 (byR bs (L.take (i + 1)))) := Lib.hid (by
        have h := HQ.out.1
        rw [List.take_of_length_le (by rw [HNB.out]; exact Nat.le_refl _)] at h
        rw [HXS.out]
        exact h)
      have HBN : Hid (Below wb.heap.size wb wr) := Lib.hid HQ.out.2.1
      go_wp2_with fail
      go_roundw
      case rel => exact ⟨i + 1, by omega, by go_num, HLN, HBN⟩
      case measure => simp [intOf]; omega
    obtain ⟨s, hs⟩ : ∃ s, bs[j]? = some s := ⟨_, List.getElem?_eq_getElem (by rw [HNB.out]; exact hltj)⟩
    obtain ⟨bb, bo, cs, e8, ⟨rfl, -⟩, -, hcell⟩ := (HUBb.out.below strR_mono HQ.out.2.1).get hs
    obtain rfl := e8
    have c0 := hcell 0 _ rfl
    rw [Nat.add_zero, Nat.mul_one] at c0
    have HSJ := Lib.hid (byR1_step (x := x) hs)
    obtain ⟨q0, q1⟩ := (bx2 HQ.out.2.2.1).1
    have hj0 : (0 : Int) ≤ (j : Int) := by omega
    have hj1 : (j : Int) < (nb : Int) := by omega
    obtain ⟨Ss, hSs⟩ : ∃ Q, mkS s = Q := ⟨_, rfl⟩
    rw [hSs] at c0
    by_cases heq : s = x.nm
    case neg =>
      have t1 : (Ss.toList == X0.toList) = false := by rw [← hSs, ← HX0.out.1, mkS_list, mkS_list]; exact beq_eq_false_iff_ne.2 heq
      have HQ2 : Hid (Ow LbR 2 75 wb.heap.size wr u15 (P0 ++ byR1 (bs.take (j + 1)) x) ∧ Below wb.heap.size wb wr ∧ wr.heap[zb]? = some (.cells #[.string X0, .string X1] 75 (0, 0)) ∧ u15.ownBlock ≠ some zb) := Lib.hid (by
        rw [HSJ.out, if_neg heq, List.append_nil]
        exact HQ.out)
      clear hcell hs heq hSs
      go_wp2_with fail
      go_roundw
      case rel => exact ⟨j + 1, by omega, by go_num, HQ2⟩
      case measure => simp [intOf]; omega
    have t1 : (Ss.toList == X0.toList) = true := by rw [← hSs, ← HX0.out.1, heq]; simp
    have HSJ2 : Hid (P0 ++ byR1 (bs.take (j + 1)) x = (P0 ++ byR1 (bs.take j) x) ++ [x]) := Lib.hid (by rw [HSJ.out, if_pos heq, List.append_assoc])
    obtain ⟨P1, hP1⟩ : ∃ A, P0 ++ byR1 (bs.take j) x = A := ⟨_, rfl⟩
    have hP1l : P1.length ≤ 200 := by
      rw [← hP1, List.length_append]
      have h1 := byR1_len (bs.take j) x
      have h2 : (bs.take j).length ≤ 10 := by rw [List.length_take, HNB.out]; omega
      omega
    rw [hP1] at HQ HSJ2
    obtain ⟨pl, hpl⟩ : ∃ n, P1.length = n := ⟨_, rfl⟩
    rw [hpl] at hP1l
    obtain ⟨uo, uc, hu, -, -⟩ := HQ.out.1.sp.shapeN hpl
    subst hu
    obtain ⟨P, h1, h2, h3, hrow⟩ := HQ.out.1
    rw [hpl] at hrow
    have HPP := Lib.hid (And.intro h1 (And.intro h2 h3))
    have HPL := Lib.hid hpl
    have hbelr : Below wb.heap.size wb wr := HQ.out.2.1
    have hszr : wb.heap.size ≤ wr.heap.size := hbelr.size
    clear hcell hs heq hSs hP1 hpl h1 h2 h3
    go_wp2_with (at_builtin; refine append2 [.string X0, .string X1] elLb rfl _ _ rfl hrow hbelr hszr rfl rfl rfl (by intro x hx; simp at hx; rcases hx with rfl | rfl <;> rfl) ?c4 ?c5 ?_)
    case c4 => omega
    case c5 => omega
    intro g7 c7 w7 hown7 hbel7 hgr7 hat7
    have HQ7 : Hid (Ow LbR 2 75 wb.heap.size w7 (.slice (some ⟨g7, 0, none⟩) (pl + 1) c7) (P0 ++ byR1 (bs.take (j + 1)) x) ∧ Below wb.heap.size wb w7 ∧ w7.heap[zb]? = some (.cells #[.string X0, .string X1] 75 (0, 0)) ∧ (Value.slice (some ⟨g7, 0, none⟩) (pl + 1) c7).ownBlock ≠ some zb) := Lib.hid (by
      have l1 := (Array.getElem?_eq_some_iff.1 HQ.out.2.2.1).1
      rw [HSJ2.out]
      refine ⟨ow_lbs_snoc HPP.out hrow HPL.out hgr7 (by rw [HX0.out.1, HX0.out.2]; exact hown7) (by have h := HLX.out wr; rw [← HX0.out.1, ← HX0.out.2] at h; exact h), hbel7, (hgr7.block zb l1 (fun e => HQ.out.2.2.2 e.symm)).trans HQ.out.2.2.1, fun e => ?_⟩
      have e2 : g7 = zb := by simpa [Value.ownBlock] using e
      rcases hat7 with h | h
      · exact HQ.out.2.2.2 (by rw [← h, e2])
      · omega)
    clear hown7 hbel7 hgr7 hat7 hrow hbelr hszr q0 q1 c0 t1
    go_wp2_with fail
    go_roundw
    case rel => exact ⟨j + 1, by omega, by go_num, HQ7⟩
    case measure => simp [intOf]; omega
  obtain rfl : i = tl := by omega
  have HLF : Hid (Sp LbR 2 wr u15 (byR bs L)) := Lib.hid (by
    have h := HLI.out.sp
    rwa [List.take_of_length_le (by rw [HTL.out]; exact Nat.le_refl _)] at h)
  have HRr := Lib.hid (HRb.out.below HBI.out)
  have HXr := Lib.hid ((HBI.out.block bx (Array.getElem?_eq_some_iff.1 HXb.out).1).trans HXb.out)
  have HYr := Lib.hid ((HBI.out.block yb (Array.getElem?_eq_some_iff.1 HSB.out).1).trans HSB.out)
  have HBr := Lib.hid (HBb.out.trans (HBI.out.mono HBb.out.size))
  have HF0 : Hid (labelF (byR bs L) = 0) := Lib.hid (by rw [byR_is HBS.out]; exact label_filter _ HL0.out)
  have HMO := Lib.hid (fun z => more2_any R (byR bs L) z u7 u15 3 bx #[] wr HRr.out.1 HLF.out HFN.out.gd HF0.out (by have := HFN.out.len; omega) (fun W hb => ⟨_, _, _, _, _, (hb.block bx (Array.getElem?_eq_some_iff.1 HXr.out).1).trans HXr.out⟩))
  obtain ⟨bl, hbl⟩ : ∃ n, (byR bs L).length = n := ⟨_, rfl⟩
  obtain ⟨lo15, lc15, hu15, -, -⟩ := HLF.out.shapeN hbl
  subst hu15
  have HST : Hid ((S.take (k + 1)).foldl (fun o y => moreF (opK 3) (gdR 3 bs y) o) [] = moreF (opK 3) (byR bs L, V) R) := Lib.hid (by rw [HNX.out]; rfl)
  obtain ⟨⟨s0, s1⟩, -⟩ := bx2 HYr.out
  obtain ⟨⟨z0, -, -, -, -, -⟩, -⟩ := bx6 HXr.out
  have hmf : ∀ (fn : Fn) (first cap : Array Value) (w : World), (Instr.makeFunc fn first cap).run Tryz.prog w = .ok (.func fn first cap) w := fun _ _ _ _ => rfl
  clear hbl HLI HBI
  go_wp2_with fail
  refine (HMO.out V).mono ?_
  intro e w5 hP
  obtain ⟨v5, rfl, ha5, hb5⟩ := hP.as HRr.out.2
  have HR5 : Hid (AsAt w ((S.take (k + 1)).foldl (fun o y => moreF (opK 3) (gdR 3 bs y) o) []) v5 w5) := Lib.hid (by rw [HST.out]; exact ha5)
  have HB5 := Lib.hid (HBr.out.trans (hb5.mono HBr.out.size))
  clear hP ha5 hb5 s0 s1 z0
  go_wp2_with fail
  go_roundw
  case rel => exact ⟨k + 1, by omega, by go_num, HR5, HB5⟩
  case measure => simp [intOf]; omega
set_option maxHeartbeats 16000000 in
set_option maxRecDepth 100000 in
theorem asked_grp4 (S : List Rw) (y : Ex) (d : Nat) (bs : List By) (now k1 wd : Int) (um ub ux v : Value) (w : World)
    (hub : Sp StrR 1 w ub bs) (hux : Sp (ExD d) 6 w ux [y]) (hum : ∃ a n c, um = .slice a n c) (hvv : ∃ a n c, v = .slice a n c) (hbs : bs.Pairwise (· < ·)) (hb10 : bs.length ≤ 10)
    (hG : ∀ r ∈ S, labelF r.1 = 0) (hl : S.length ≤ 1000)
    (hev : ∀ W c0 c1 c2 c3 c4 c5, Below w.heap.size w W → ExD d W y [c0, c1, c2, c3, c4, c5] → Calls Tryz.prog 32 #[.agg #[c0, c1, c2, c3, c4, c5], v, .int .i64 now] W (AsP W S)) :
    Calls Tryz.prog 32 #[.agg #[.int .i64 4, .int .i64 k1, .int .i64 wd, um, ub, ux], v, .int .i64 now] w (AsP w (grpR 4 bs S)) := by
  obtain ⟨av, nv, cv, rfl⟩ := hvv
  obtain ⟨am, nm, cm, rfl⟩ := hum
  obtain ⟨nb, hnb⟩ : ∃ n, bs.length = n := ⟨_, rfl⟩
  obtain ⟨ab, cb, rfl, -, -⟩ := hub.shapeN hnb
  obtain ⟨ax, cx, rfl, -, -⟩ := hux.shapeN (show [y].length = 1 from rfl)
  obtain ⟨wa, hwa, hbox, hba, hsa⟩ := box_ex w (.int .i64 4) (.int .i64 k1) (.int .i64 wd) (.slice am nm cm) (.slice ab nb cb) (.slice ax 1 cx)
  have hux2 := hux.below (exD_mono d) hba
  obtain ⟨xb, xo, cs, e9, hy, -, hat⟩ := hux2.headN
  subst e9
  obtain ⟨c0, c1, c2, m0, m1, m2, b0, b1, b2, x0, x1, x2, rfl⟩ := exD_shape hy
  have y0 := hat 0 _ rfl
  have y1 := hat 1 _ rfl
  have y2 := hat 2 _ rfl
  have y3 := hat 3 _ rfl
  have y4 := hat 4 _ rfl
  have y5 := hat 5 _ rfl
  rw [Nat.add_zero] at y0
  have HEV := Lib.hid (hev wa _ _ _ _ _ _ hba hy)
  have HUB := Lib.hid (fun W (hb : Below w.heap.size w W) => hub.below strR_mono hb)
  have HWA := Lib.hid hwa
  have HBA := Lib.hid hba
  have HX := Lib.hid hbox
  have HG := Lib.hid hG
  have HBS := Lib.hid hbs
  have HNB := Lib.hid hnb
  rw [hnb] at hb10
  have hw9 : w.heap.size ≤ wa.heap.size := by omega
  obtain ⟨⟨d0, -, -, -, -, d5⟩, -⟩ := bx6 hbox
  obtain ⟨m, hm⟩ : ∃ n, S.length = n := ⟨_, rfl⟩
  rw [hm] at hl
  have HM := Lib.hid hm
  clear hub hux hux2 hy hat hwa hbox hba hsa hG hbs hnb hm hev
  go_enter Tryz.func32, Tryz.ntmps32
  go_upto_region 3 with (fail)
  rw [← HWA.out]
  generalize hbx : w.heap.size = bx at *
  go_wp2_with fail
  refine HEV.out.mono ?_
  rintro e w2 ⟨v2, rfl, hs2, hb2⟩
  obtain ⟨so, sc, rfl, -, -⟩ := hs2.shapeN HM.out
  have HS2 := Lib.hid hs2
  have HB2 := Lib.hid (HBA.out.trans (hb2.mono hw9))
  have HX2 := Lib.hid ((hb2.block bx (Array.getElem?_eq_some_iff.1 HX.out).1).trans HX.out)
  have H00 : Hid (AsAt w ((S.take 0).foldl (fun o y => moreF (opK 4) (gdR 4 bs y) o) []) (.slice none 0 0) w2) := Lib.hid ⟨Sp.nil, by rw [hbx]; exact HB2.out⟩
  clear hs2 hb2 d0 d5 y0 y1 y2 y3 y4 y5
  go_wp2_with fail
  go_loopw [7, 95] (fun o i wr => ∃ k : Nat, k ≤ m ∧ i = .int .i64 k ∧ Hid (AsAt w ((S.take k).foldl (fun o y => moreF (opK 4) (gdR 4 bs y) o) []) o wr) ∧ Hid (Below w2.heap.size w2 wr)) (fun _ i _ => m - (intOf i).toNat)
  case atStart => exact ⟨0, Nat.zero_le _, rfl, H00, Lib.hid (Below.refl _ _)⟩
  case round =>
  obtain ⟨k, hk, rfl, HR, HB⟩ := hrel
  by_cases hlt : k < m
  case neg =>
    obtain rfl : k = m := by omega
    have HE : Hid (AsP w (grpR 4 bs S) (.returned u7) wr) := Lib.hid (by
      have h := HR.out
      rw [List.take_of_length_le (by rw [HM.out]; exact Nat.le_refl _)] at h
      exact ⟨u7, rfl, h.1, h.2⟩)
    go_wp2_with fail
    go_ret
    exact HE.out
  obtain ⟨r, hr⟩ : ∃ r, S[k]? = some r := ⟨_, List.getElem?_eq_getElem (by rw [HM.out]; exact hlt)⟩
  obtain ⟨L, V⟩ := r
  obtain ⟨sb, sof, cs, e8, ⟨t, rfl, ht⟩, -, hcell⟩ := (HS2.out.below rdR_mono HB.out).get hr
  obtain rfl := e8
  simp only at ht hcell
  have hL0 : labelF L = 0 := HG.out _ (List.mem_of_getElem? hr)
  have hL10 := labelF_len hL0
  obtain ⟨tl, htl⟩ : ∃ n, L.length = n := ⟨_, rfl⟩
  obtain ⟨ta, tc, rfl, -, -⟩ := ht.shapeN htl
  rw [htl] at hL10
  have c0 := hcell 0 _ rfl
  have c1 := hcell 1 _ rfl
  rw [Nat.add_zero] at c0
  have HNX := Lib.hid (fold_step (f := fun o y => moreF (opK 4) (gdR 4 bs y) o) (o := []) hr)
  obtain ⟨R, hR⟩ : ∃ R, (S.take k).foldl (fun o y => moreF (opK 4) (gdR 4 bs y) o) [] = R := ⟨_, rfl⟩
  have HFN := Lib.hid (grpk_fine (k := 4) HBS.out HG.out k (by rw [HM.out]; omega))
  rw [hR] at HR HNX HFN
  obtain ⟨wb, hwb⟩ : ∃ wb, wb = wr.alloc (.cells #[.slice ta tl tc, .int .i64 V] 96) := ⟨_, rfl⟩
  have hBB : Below wr.heap.size wr wb := by rw [hwb]; exact (Below.refl _ wr).alloc (Nat.le_refl _) _
  have hsb : wb.heap[wr.heap.size]? = some (.cells #[.slice ta tl tc, .int .i64 V] 96 (0, 0)) := by rw [hwb]; exact heap_alloc_new wr _
  have HRb := Lib.hid (HR.out.below hBB)
  have HBb := Lib.hid (HB.out.trans (hBB.mono HB.out.size))
  have HTT := Lib.hid (ht.below lbR_mono hBB)
  have HTL := Lib.hid htl
  have HL0 := Lib.hid hL0
  have HSB := Lib.hid hsb
  have HXb := Lib.hid ((HBb.out.block bx (Array.getElem?_eq_some_iff.1 HX2.out).1).trans HX2.out)
  have HUBb := Lib.hid (HUB.out wb (by rw [← hbx]; exact HRb.out.2))
  obtain ⟨⟨s0, s1⟩, -⟩ := bx2 hsb
  have hk0 : (0 : Int) ≤ (k : Int) := by omega
  have hk1 : (k : Int) < (m : Int) := by omega
  have HL00 : Hid (Ow LbR 2 75 wb.heap.size wb (.slice none 0 0) (byR bs (L.take 0))) := Lib.hid Ow.nil
  clear hcell ht hr htl hR hL0 hsb
  go_upto_region 26 with (fail)
  rw [← hwb]
  clear hwb hBB c0 c1
  generalize hby : wr.heap.size = yb at *
  clear HR HB
  go_wp2_with fail
  go_loopw [15, 102] (fun o i wr => ∃ i' : Nat, i' ≤ tl ∧ i = .int .i64 i' ∧ Hid (Ow LbR 2 75 wb.heap.size wr o (byR bs (L.take i'))) ∧ Hid (Below wb.heap.size wb wr)) (fun _ i _ => tl - (intOf i).toNat)
  case atStart => exact ⟨0, Nat.zero_le _, rfl, HL00, Lib.hid (Below.refl _ _)⟩
  case round =>
  obtain ⟨i, hi, rfl, HLI, HBI⟩ := hrel
  by_cases hlti : i < tl
  case pos =>
    obtain ⟨x, hx⟩ : ∃ x, L[i]? = some x := ⟨_, List.getElem?_eq_getElem (by rw [HTL.out]; exact hlti)⟩
    obtain ⟨lb, lo, cs, e8, hlx, -, hcell⟩ := (HTT.out.below lbR_mono HBI.out).get hx
    obtain rfl := e8
    obtain ⟨rfl, hlx1, hlx2⟩ := hlx
    have c0 := hcell 0 _ rfl
    have c1 := hcell 1 _ rfl
    rw [Nat.add_zero] at c0
    have HXS := Lib.hid (byR_step (b := bs) hx)
    have HLX : Hid (∀ W, LbR W x [.string (mkS x.nm), .string (mkS x.vl)]) := Lib.hid (fun W => ⟨rfl, hlx1, hlx2⟩)
    obtain ⟨wc, hwc⟩ : ∃ wb, wb = wr.alloc (.cells #[.string (mkS x.nm), .string (mkS x.vl)] 75) := ⟨_, rfl⟩
    have hBC : Below wr.heap.size wr wc := by rw [hwc]; exact (Below.refl _ wr).alloc (Nat.le_refl _) _
    have hsc : wc.heap[wr.heap.size]? = some (.cells #[.string (mkS x.nm), .string (mkS x.vl)] 75 (0, 0)) := by rw [hwc]; exact heap_alloc_new wr _
    obtain ⟨P0, hP0⟩ : ∃ A, byR bs (L.take i) = A := ⟨_, rfl⟩
    have hP0l : P0.length ≤ 100 := by
      rw [← hP0]
      have h1 := byR_len bs (L.take i)
      have h2 : (L.take i).length ≤ 10 := by rw [List.length_take, HTL.out]; omega
      have h3 : (L.take i).length * bs.length ≤ 10 * 10 := Nat.mul_le_mul h2 (by rw [HNB.out]; exact hb10)
      omega
    rw [hP0] at HLI HXS
    have HLc := Lib.hid (HLI.out.below lbR_mono hBC)
    have HBc := Lib.hid (HBI.out.trans (hBC.mono HBI.out.size))
    have hne0 : u15.ownBlock ≠ some wr.heap.size := fun e => by
      obtain ⟨P, -, -, -, h4⟩ := HLI.out
      have := (h4.lt _ e).2
      omega
    have HI0 : Hid (Ow LbR 2 75 wb.heap.size wc u15 (P0 ++ byR1 (bs.take 0) x) ∧ Below wb.heap.size wb wc ∧ wc.heap[wr.heap.size]? = some (.cells #[.string (mkS x.nm), .string (mkS x.vl)] 75 (0, 0)) ∧ u15.ownBlock ≠ some wr.heap.size) := Lib.hid ⟨by
      have e : byR1 (bs.take 0) x = [] := rfl
      rw [e, List.append_nil]; exact HLc.out, HBc.out, hsc, hne0⟩
    obtain ⟨X0, hX0⟩ : ∃ Q, mkS x.nm = Q := ⟨_, rfl⟩
    obtain ⟨X1, hX1⟩ : ∃ Q, mkS x.vl = Q := ⟨_, rfl⟩
    rw [hX0] at c0 hwc
    rw [hX1] at c1 hwc
    rw [hX0, hX1] at HI0 HLX
    have HX0 := Lib.hid (And.intro hX0 hX1)
    have hi0 : (0 : Int) ≤ (i : Int) := by omega
    have hi1 : (i : Int) < (tl : Int) := by omega
    obtain ⟨⟨-, -, -, -, z4, -⟩, -⟩ := bx6 ((HBc.out.block bx (Array.getElem?_eq_some_iff.1 HXb.out).1).trans HXb.out)
    clear hcell hx hsc hP0 hX0 hX1 hne0 hlx1 hlx2
    go_upto_region 29 with (fail)
    rw [← hwc]
    clear hwc c0 c1 hBC
    generalize hbz : wr.heap.size = zb at *
    clear HLI HBI
    go_wp2_with fail
    go_loopw [15, 109] (fun o q wr => ∃ j : Nat, j ≤ nb ∧ q = .int .i64 j ∧ Hid (Ow LbR 2 75 wb.heap.size wr o (P0 ++ byR1 (bs.take j) x) ∧ Below wb.heap.size wb wr ∧ wr.heap[zb]? = some (.cells #[.string X0, .string X1] 75 (0, 0)) ∧ o.ownBlock ≠ some zb)) (fun _ q _ => nb - (intOf q).toNat)
    case atStart => exact ⟨0, Nat.zero_le _, rfl, HI0⟩
    case round =>
    obtain ⟨j, hj, rfl, HQ⟩ := hrel
    by_cases hltj : j < nb
    case neg =>
      obtain rfl : j = nb := by omega
      have HLN : Hid (Ow LbR 2 75 wb.heap.size wr u15 (byR bs (L.take (i + 1)))) := Lib.hid (by
        have h := HQ.out.1
        rw [List.take_of_length_le (by rw [HNB.out]; exact Nat.le_refl _)] at h
        rw [HXS.out]
        exact h)
      have HBN : Hid (Below wb.heap.size wb wr) := Lib.hid HQ.out.2.1
      go_wp2_with fail
      go_roundw
      case rel => exact ⟨i + 1, by omega, by go_num, HLN, HBN⟩
      case measure => simp [intOf]; omega
    obtain ⟨s, hs⟩ : ∃ s, bs[j]? = some s := ⟨_, List.getElem?_eq_getElem (by rw [HNB.out]; exact hltj)⟩
    obtain ⟨bb, bo, cs, e8, ⟨rfl, -⟩, -, hcell⟩ := (HUBb.out.below strR_mono HQ.out.2.1).get hs
    obtain rfl := e8
    have c0 := hcell 0 _ rfl
    rw [Nat.add_zero, Nat.mul_one] at c0
    have HSJ := Lib.hid (byR1_step (x := x) hs)
    obtain ⟨q0, q1⟩ := (bx2 HQ.out.2.2.1).1
    have hj0 : (0 : Int) ≤ (j : Int) := by omega
    have hj1 : (j : Int) < (nb : Int) := by omega
    obtain ⟨Ss, hSs⟩ : ∃ Q, mkS s = Q := ⟨_, rfl⟩
    rw [hSs] at c0
    by_cases heq : s = x.nm
    case neg =>
      have t1 : (Ss.toList == X0.toList) = false := by rw [← hSs, ← HX0.out.1, mkS_list, mkS_list]; exact beq_eq_false_iff_ne.2 heq
      have HQ2 : Hid (Ow LbR 2 75 wb.heap.size wr u15 (P0 ++ byR1 (bs.take (j + 1)) x) ∧ Below wb.heap.size wb wr ∧ wr.heap[zb]? = some (.cells #[.string X0, .string X1] 75 (0, 0)) ∧ u15.ownBlock ≠ some zb) := Lib.hid (by
        rw [HSJ.out, if_neg heq, List.append_nil]
        exact HQ.out)
      clear hcell hs heq hSs
      go_wp2_with fail
      go_roundw
      case rel => exact ⟨j + 1, by omega, by go_num, HQ2⟩
      case measure => simp [intOf]; omega
    have t1 : (Ss.toList == X0.toList) = true := by rw [← hSs, ← HX0.out.1, heq]; simp
    have HSJ2 : Hid (P0 ++ byR1 (bs.take (j + 1)) x = (P0 ++ byR1 (bs.take j) x) ++ [x]) := Lib.hid (by rw [HSJ.out, if_pos heq, List.append_assoc])
    obtain ⟨P1, hP1⟩ : ∃ A, P0 ++ byR1 (bs.take j) x = A := ⟨_, rfl⟩
    have hP1l : P1.length ≤ 200 := by
      rw [← hP1, List.length_append]
      have h1 := byR1_len (bs.take j) x
      have h2 : (bs.take j).length ≤ 10 := by rw [List.length_take, HNB.out]; omega
      omega
    rw [hP1] at HQ HSJ2
    obtain ⟨pl, hpl⟩ : ∃ n, P1.length = n := ⟨_, rfl⟩
    rw [hpl] at hP1l
    obtain ⟨uo, uc, hu, -, -⟩ := HQ.out.1.sp.shapeN hpl
    subst hu
    obtain ⟨P, h1, h2, h3, hrow⟩ := HQ.out.1
    rw [hpl] at hrow
    have HPP := Lib.hid (And.intro h1 (And.intro h2 h3))
    have HPL := Lib.hid hpl
    have hbelr : Below wb.heap.size wb wr := HQ.out.2.1
    have hszr : wb.heap.size ≤ wr.heap.size := hbelr.size
    clear hcell hs heq hSs hP1 hpl h1 h2 h3
    go_wp2_with (at_builtin; refine append2 [.string X0, .string X1] elLb rfl _ _ rfl hrow hbelr hszr rfl rfl rfl (by intro x hx; simp at hx; rcases hx with rfl | rfl <;> rfl) ?c4 ?c5 ?_)
    case c4 => omega
    case c5 => omega
    intro g7 c7 w7 hown7 hbel7 hgr7 hat7
    have HQ7 : Hid (Ow LbR 2 75 wb.heap.size w7 (.slice (some ⟨g7, 0, none⟩) (pl + 1) c7) (P0 ++ byR1 (bs.take (j + 1)) x) ∧ Below wb.heap.size wb w7 ∧ w7.heap[zb]? = some (.cells #[.string X0, .string X1] 75 (0, 0)) ∧ (Value.slice (some ⟨g7, 0, none⟩) (pl + 1) c7).ownBlock ≠ some zb) := Lib.hid (by
      have l1 := (Array.getElem?_eq_some_iff.1 HQ.out.2.2.1).1
      rw [HSJ2.out]
      refine ⟨ow_lbs_snoc HPP.out hrow HPL.out hgr7 (by rw [HX0.out.1, HX0.out.2]; exact hown7) (by have h := HLX.out wr; rw [← HX0.out.1, ← HX0.out.2] at h; exact h), hbel7, (hgr7.block zb l1 (fun e => HQ.out.2.2.2 e.symm)).trans HQ.out.2.2.1, fun e => ?_⟩
      have e2 : g7 = zb := by simpa [Value.ownBlock] using e
      rcases hat7 with h | h
      · exact HQ.out.2.2.2 (by rw [← h, e2])
      · omega)
    clear hown7 hbel7 hgr7 hat7 hrow hbelr hszr q0 q1 c0 t1
    go_wp2_with fail
    go_roundw
    case rel => exact ⟨j + 1, by omega, by go_num, HQ7⟩
    case measure => simp [intOf]; omega
  obtain rfl : i = tl := by omega
  have HLF : Hid (Sp LbR 2 wr u15 (byR bs L)) := Lib.hid (by
    have h := HLI.out.sp
    rwa [List.take_of_length_le (by rw [HTL.out]; exact Nat.le_refl _)] at h)
  have HRr := Lib.hid (HRb.out.below HBI.out)
  have HXr := Lib.hid ((HBI.out.block bx (Array.getElem?_eq_some_iff.1 HXb.out).1).trans HXb.out)
  have HYr := Lib.hid ((HBI.out.block yb (Array.getElem?_eq_some_iff.1 HSB.out).1).trans HSB.out)
  have HBr := Lib.hid (HBb.out.trans (HBI.out.mono HBb.out.size))
  have HF0 : Hid (labelF (byR bs L) = 0) := Lib.hid (by rw [byR_is HBS.out]; exact label_filter _ HL0.out)
  have HMO := Lib.hid (fun z => more2_any R (byR bs L) z u7 u15 4 bx #[] wr HRr.out.1 HLF.out HFN.out.gd HF0.out (by have := HFN.out.len; omega) (fun W hb => ⟨_, _, _, _, _, (hb.block bx (Array.getElem?_eq_some_iff.1 HXr.out).1).trans HXr.out⟩))
  obtain ⟨bl, hbl⟩ : ∃ n, (byR bs L).length = n := ⟨_, rfl⟩
  obtain ⟨lo15, lc15, hu15, -, -⟩ := HLF.out.shapeN hbl
  subst hu15
  have HST : Hid ((S.take (k + 1)).foldl (fun o y => moreF (opK 4) (gdR 4 bs y) o) [] = moreF (opK 4) (byR bs L, V) R) := Lib.hid (by rw [HNX.out]; rfl)
  obtain ⟨⟨s0, s1⟩, -⟩ := bx2 HYr.out
  obtain ⟨⟨z0, -, -, -, -, -⟩, -⟩ := bx6 HXr.out
  have hmf : ∀ (fn : Fn) (first cap : Array Value) (w : World), (Instr.makeFunc fn first cap).run Tryz.prog w = .ok (.func fn first cap) w := fun _ _ _ _ => rfl
  clear hbl HLI HBI
  go_wp2_with fail
  refine (HMO.out V).mono ?_
  intro e w5 hP
  obtain ⟨v5, rfl, ha5, hb5⟩ := hP.as HRr.out.2
  have HR5 : Hid (AsAt w ((S.take (k + 1)).foldl (fun o y => moreF (opK 4) (gdR 4 bs y) o) []) v5 w5) := Lib.hid (by rw [HST.out]; exact ha5)
  have HB5 := Lib.hid (HBr.out.trans (hb5.mono HBr.out.size))
  clear hP ha5 hb5 s0 s1 z0
  go_wp2_with fail
  go_roundw
  case rel => exact ⟨k + 1, by omega, by go_num, HR5, HB5⟩
  case measure => simp [intOf]; omega
set_option maxHeartbeats 16000000 in
set_option maxRecDepth 100000 in
theorem asked_grp5 (S : List Rw) (y : Ex) (d : Nat) (bs : List By) (now k1 wd : Int) (um ub ux v : Value) (w : World)
    (hub : Sp StrR 1 w ub bs) (hux : Sp (ExD d) 6 w ux [y]) (hum : ∃ a n c, um = .slice a n c) (hvv : ∃ a n c, v = .slice a n c) (hbs : bs.Pairwise (· < ·)) (hb10 : bs.length ≤ 10)
    (hG : ∀ r ∈ S, labelF r.1 = 0) (hl : S.length ≤ 1000)
    (hev : ∀ W c0 c1 c2 c3 c4 c5, Below w.heap.size w W → ExD d W y [c0, c1, c2, c3, c4, c5] → Calls Tryz.prog 32 #[.agg #[c0, c1, c2, c3, c4, c5], v, .int .i64 now] W (AsP W S)) :
    Calls Tryz.prog 32 #[.agg #[.int .i64 5, .int .i64 k1, .int .i64 wd, um, ub, ux], v, .int .i64 now] w (AsP w (grpR 5 bs S)) := by
  obtain ⟨av, nv, cv, rfl⟩ := hvv
  obtain ⟨am, nm, cm, rfl⟩ := hum
  obtain ⟨nb, hnb⟩ : ∃ n, bs.length = n := ⟨_, rfl⟩
  obtain ⟨ab, cb, rfl, -, -⟩ := hub.shapeN hnb
  obtain ⟨ax, cx, rfl, -, -⟩ := hux.shapeN (show [y].length = 1 from rfl)
  obtain ⟨wa, hwa, hbox, hba, hsa⟩ := box_ex w (.int .i64 5) (.int .i64 k1) (.int .i64 wd) (.slice am nm cm) (.slice ab nb cb) (.slice ax 1 cx)
  have hux2 := hux.below (exD_mono d) hba
  obtain ⟨xb, xo, cs, e9, hy, -, hat⟩ := hux2.headN
  subst e9
  obtain ⟨c0, c1, c2, m0, m1, m2, b0, b1, b2, x0, x1, x2, rfl⟩ := exD_shape hy
  have y0 := hat 0 _ rfl
  have y1 := hat 1 _ rfl
  have y2 := hat 2 _ rfl
  have y3 := hat 3 _ rfl
  have y4 := hat 4 _ rfl
  have y5 := hat 5 _ rfl
  rw [Nat.add_zero] at y0
  have HEV := Lib.hid (hev wa _ _ _ _ _ _ hba hy)
  have HUB := Lib.hid (fun W (hb : Below w.heap.size w W) => hub.below strR_mono hb)
  have HWA := Lib.hid hwa
  have HBA := Lib.hid hba
  have HX := Lib.hid hbox
  have HG := Lib.hid hG
  have HBS := Lib.hid hbs
  have HNB := Lib.hid hnb
  rw [hnb] at hb10
  have hw9 : w.heap.size ≤ wa.heap.size := by omega
  obtain ⟨⟨d0, -, -, -, -, d5⟩, -⟩ := bx6 hbox
  obtain ⟨m, hm⟩ : ∃ n, S.length = n := ⟨_, rfl⟩
  rw [hm] at hl
  have HM := Lib.hid hm
  clear hub hux hux2 hy hat hwa hbox hba hsa hG hbs hnb hm hev
  go_enter Tryz.func32, Tryz.ntmps32
  go_upto_region 3 with (fail)
  rw [← HWA.out]
  generalize hbx : w.heap.size = bx at *
  go_wp2_with fail
  refine HEV.out.mono ?_
  rintro e w2 ⟨v2, rfl, hs2, hb2⟩
  obtain ⟨so, sc, rfl, -, -⟩ := hs2.shapeN HM.out
  have HS2 := Lib.hid hs2
  have HB2 := Lib.hid (HBA.out.trans (hb2.mono hw9))
  have HX2 := Lib.hid ((hb2.block bx (Array.getElem?_eq_some_iff.1 HX.out).1).trans HX.out)
  have H00 : Hid (AsAt w ((S.take 0).foldl (fun o y => moreF (opK 5) (gdR 5 bs y) o) []) (.slice none 0 0) w2) := Lib.hid ⟨Sp.nil, by rw [hbx]; exact HB2.out⟩
  clear hs2 hb2 d0 d5 y0 y1 y2 y3 y4 y5
  go_wp2_with fail
  go_loopw [7, 95] (fun o i wr => ∃ k : Nat, k ≤ m ∧ i = .int .i64 k ∧ Hid (AsAt w ((S.take k).foldl (fun o y => moreF (opK 5) (gdR 5 bs y) o) []) o wr) ∧ Hid (Below w2.heap.size w2 wr)) (fun _ i _ => m - (intOf i).toNat)
  case atStart => exact ⟨0, Nat.zero_le _, rfl, H00, Lib.hid (Below.refl _ _)⟩
  case round =>
  obtain ⟨k, hk, rfl, HR, HB⟩ := hrel
  by_cases hlt : k < m
  case neg =>
    obtain rfl : k = m := by omega
    have HE : Hid (AsP w (grpR 5 bs S) (.returned u7) wr) := Lib.hid (by
      have h := HR.out
      rw [List.take_of_length_le (by rw [HM.out]; exact Nat.le_refl _)] at h
      exact ⟨u7, rfl, h.1, h.2⟩)
    go_wp2_with fail
    go_ret
    exact HE.out
  obtain ⟨r, hr⟩ : ∃ r, S[k]? = some r := ⟨_, List.getElem?_eq_getElem (by rw [HM.out]; exact hlt)⟩
  obtain ⟨L, V⟩ := r
  obtain ⟨sb, sof, cs, e8, ⟨t, rfl, ht⟩, -, hcell⟩ := (HS2.out.below rdR_mono HB.out).get hr
  obtain rfl := e8
  simp only at ht hcell
  have hL0 : labelF L = 0 := HG.out _ (List.mem_of_getElem? hr)
  have hL10 := labelF_len hL0
  obtain ⟨tl, htl⟩ : ∃ n, L.length = n := ⟨_, rfl⟩
  obtain ⟨ta, tc, rfl, -, -⟩ := ht.shapeN htl
  rw [htl] at hL10
  have c0 := hcell 0 _ rfl
  have c1 := hcell 1 _ rfl
  rw [Nat.add_zero] at c0
  have HNX := Lib.hid (fold_step (f := fun o y => moreF (opK 5) (gdR 5 bs y) o) (o := []) hr)
  obtain ⟨R, hR⟩ : ∃ R, (S.take k).foldl (fun o y => moreF (opK 5) (gdR 5 bs y) o) [] = R := ⟨_, rfl⟩
  have HFN := Lib.hid (grpk_fine (k := 5) HBS.out HG.out k (by rw [HM.out]; omega))
  rw [hR] at HR HNX HFN
  obtain ⟨wb, hwb⟩ : ∃ wb, wb = wr.alloc (.cells #[.slice ta tl tc, .int .i64 V] 96) := ⟨_, rfl⟩
  have hBB : Below wr.heap.size wr wb := by rw [hwb]; exact (Below.refl _ wr).alloc (Nat.le_refl _) _
  have hsb : wb.heap[wr.heap.size]? = some (.cells #[.slice ta tl tc, .int .i64 V] 96 (0, 0)) := by rw [hwb]; exact heap_alloc_new wr _
  have HRb := Lib.hid (HR.out.below hBB)
  have HBb := Lib.hid (HB.out.trans (hBB.mono HB.out.size))
  have HTT := Lib.hid (ht.below lbR_mono hBB)
  have HTL := Lib.hid htl
  have HL0 := Lib.hid hL0
  have HSB := Lib.hid hsb
  have HXb := Lib.hid ((HBb.out.block bx (Array.getElem?_eq_some_iff.1 HX2.out).1).trans HX2.out)
  have HUBb := Lib.hid (HUB.out wb (by rw [← hbx]; exact HRb.out.2))
  obtain ⟨⟨s0, s1⟩, -⟩ := bx2 hsb
  have hk0 : (0 : Int) ≤ (k : Int) := by omega
  have hk1 : (k : Int) < (m : Int) := by omega
  have HL00 : Hid (Ow LbR 2 75 wb.heap.size wb (.slice none 0 0) (byR bs (L.take 0))) := Lib.hid Ow.nil
  clear hcell ht hr htl hR hL0 hsb
  go_upto_region 26 with (fail)
  rw [← hwb]
  clear hwb hBB c0 c1
  generalize hby : wr.heap.size = yb at *
  clear HR HB
  go_wp2_with fail
  go_loopw [15, 102] (fun o i wr => ∃ i' : Nat, i' ≤ tl ∧ i = .int .i64 i' ∧ Hid (Ow LbR 2 75 wb.heap.size wr o (byR bs (L.take i'))) ∧ Hid (Below wb.heap.size wb wr)) (fun _ i _ => tl - (intOf i).toNat)
  case atStart => exact ⟨0, Nat.zero_le _, rfl, HL00, Lib.hid (Below.refl _ _)⟩
  case round =>
  obtain ⟨i, hi, rfl, HLI, HBI⟩ := hrel
  by_cases hlti : i < tl
  case pos =>
    obtain ⟨x, hx⟩ : ∃ x, L[i]? = some x := ⟨_, List.getElem?_eq_getElem (by rw [HTL.out]; exact hlti)⟩
    obtain ⟨lb, lo, cs, e8, hlx, -, hcell⟩ := (HTT.out.below lbR_mono HBI.out).get hx
    obtain rfl := e8
    obtain ⟨rfl, hlx1, hlx2⟩ := hlx
    have c0 := hcell 0 _ rfl
    have c1 := hcell 1 _ rfl
    rw [Nat.add_zero] at c0
    have HXS := Lib.hid (byR_step (b := bs) hx)
    have HLX : Hid (∀ W, LbR W x [.string (mkS x.nm), .string (mkS x.vl)]) := Lib.hid (fun W => ⟨rfl, hlx1, hlx2⟩)
    obtain ⟨wc, hwc⟩ : ∃ wb, wb = wr.alloc (.cells #[.string (mkS x.nm), .string (mkS x.vl)] 75) := ⟨_, rfl⟩
    have hBC : Below wr.heap.size wr wc := by rw [hwc]; exact (Below.refl _ wr).alloc (Nat.le_refl _) _
    have hsc : wc.heap[wr.heap.size]? = some (.cells #[.string (mkS x.nm), .string (mkS x.vl)] 75 (0, 0)) := by rw [hwc]; exact heap_alloc_new wr _
    obtain ⟨P0, hP0⟩ : ∃ A, byR bs (L.take i) = A := ⟨_, rfl⟩
    have hP0l : P0.length ≤ 100 := by
      rw [← hP0]
      have h1 := byR_len bs (L.take i)
      have h2 : (L.take i).length ≤ 10 := by rw [List.length_take, HTL.out]; omega
      have h3 : (L.take i).length * bs.length ≤ 10 * 10 := Nat.mul_le_mul h2 (by rw [HNB.out]; exact hb10)
      omega
    rw [hP0] at HLI HXS
    have HLc := Lib.hid (HLI.out.below lbR_mono hBC)
    have HBc := Lib.hid (HBI.out.trans (hBC.mono HBI.out.size))
    have hne0 : u15.ownBlock ≠ some wr.heap.size := fun e => by
      obtain ⟨P, -, -, -, h4⟩ := HLI.out
      have := (h4.lt _ e).2
      omega
    have HI0 : Hid (Ow LbR 2 75 wb.heap.size wc u15 (P0 ++ byR1 (bs.take 0) x) ∧ Below wb.heap.size wb wc ∧ wc.heap[wr.heap.size]? = some (.cells #[.string (mkS x.nm), .string (mkS x.vl)] 75 (0, 0)) ∧ u15.ownBlock ≠ some wr.heap.size) := Lib.hid ⟨by
      have e : byR1 (bs.take 0) x = [] := rfl
      rw [e, List.append_nil]; exact HLc.out, HBc.out, hsc, hne0⟩
    obtain ⟨X0, hX0⟩ : ∃ Q, mkS x.nm = Q := ⟨_, rfl⟩
    obtain ⟨X1, hX1⟩ : ∃ Q, mkS x.vl = Q := ⟨_, rfl⟩
    rw [hX0] at c0 hwc
    rw [hX1] at c1 hwc
    rw [hX0, hX1] at HI0 HLX
    have HX0 := Lib.hid (And.intro hX0 hX1)
    have hi0 : (0 : Int) ≤ (i : Int) := by omega
    have hi1 : (i : Int) < (tl : Int) := by omega
    obtain ⟨⟨-, -, -, -, z4, -⟩, -⟩ := bx6 ((HBc.out.block bx (Array.getElem?_eq_some_iff.1 HXb.out).1).trans HXb.out)
    clear hcell hx hsc hP0 hX0 hX1 hne0 hlx1 hlx2
    go_upto_region 29 with (fail)
    rw [← hwc]
    clear hwc c0 c1 hBC
    generalize hbz : wr.heap.size = zb at *
    clear HLI HBI
    go_wp2_with fail
    go_loopw [15, 109] (fun o q wr => ∃ j : Nat, j ≤ nb ∧ q = .int .i64 j ∧ Hid (Ow LbR 2 75 wb.heap.size wr o (P0 ++ byR1 (bs.take j) x) ∧ Below wb.heap.size wb wr ∧ wr.heap[zb]? = some (.cells #[.string X0, .string X1] 75 (0, 0)) ∧ o.ownBlock ≠ some zb)) (fun _ q _ => nb - (intOf q).toNat)
    case atStart => exact ⟨0, Nat.zero_le _, rfl, HI0⟩
    case round =>
    obtain ⟨j, hj, rfl, HQ⟩ := hrel
    by_cases hltj : j < nb
    case neg =>
      obtain rfl : j = nb := by omega
      have HLN : Hid (Ow LbR 2 75 wb.heap.size wr u15 (byR bs (L.take (i + 1)))) := Lib.hid (by
        have h := HQ.out.1
        rw [List.take_of_length_le (by rw [HNB.out]; exact Nat.le_refl _)] at h
        rw [HXS.out]
        exact h)
      have HBN : Hid (Below wb.heap.size wb wr) := Lib.hid HQ.out.2.1
      go_wp2_with fail
      go_roundw
      case rel => exact ⟨i + 1, by omega, by go_num, HLN, HBN⟩
      case measure => simp [intOf]; omega
    obtain ⟨s, hs⟩ : ∃ s, bs[j]? = some s := ⟨_, List.getElem?_eq_getElem (by rw [HNB.out]; exact hltj)⟩
    obtain ⟨bb, bo, cs, e8, ⟨rfl, -⟩, -, hcell⟩ := (HUBb.out.below strR_mono HQ.out.2.1).get hs
    obtain rfl := e8
    have c0 := hcell 0 _ rfl
    rw [Nat.add_zero, Nat.mul_one] at c0
    have HSJ := Lib.hid (byR1_step (x := x) hs)
    obtain ⟨q0, q1⟩ := (bx2 HQ.out.2.2.1).1
    have hj0 : (0 : Int) ≤ (j : Int) := by omega
    have hj1 : (j : Int) < (nb : Int) := by omega
    obtain ⟨Ss, hSs⟩ : ∃ Q, mkS s = Q := ⟨_, rfl⟩
    rw [hSs] at c0
    by_cases heq : s = x.nm
    case neg =>
      have t1 : (Ss.toList == X0.toList) = false := by rw [← hSs, ← HX0.out.1, mkS_list, mkS_list]; exact beq_eq_false_iff_ne.2 heq
      have HQ2 : Hid (Ow LbR 2 75 wb.heap.size wr u15 (P0 ++ byR1 (bs.take (j + 1)) x) ∧ Below wb.heap.size wb wr ∧ wr.heap[zb]? = some (.cells #[.string X0, .string X1] 75 (0, 0)) ∧ u15.ownBlock ≠ some zb) := Lib.hid (by
        rw [HSJ.out, if_neg heq, List.append_nil]
        exact HQ.out)
      clear hcell hs heq hSs
      go_wp2_with fail
      go_roundw
      case rel => exact ⟨j + 1, by omega, by go_num, HQ2⟩
      case measure => simp [intOf]; omega
    have t1 : (Ss.toList == X0.toList) = true := by rw [← hSs, ← HX0.out.1, heq]; simp
    have HSJ2 : Hid (P0 ++ byR1 (bs.take (j + 1)) x = (P0 ++ byR1 (bs.take j) x) ++ [x]) := Lib.hid (by rw [HSJ.out, if_pos heq, List.append_assoc])
    obtain ⟨P1, hP1⟩ : ∃ A, P0 ++ byR1 (bs.take j) x = A := ⟨_, rfl⟩
    have hP1l : P1.length ≤ 200 := by
      rw [← hP1, List.length_append]
      have h1 := byR1_len (bs.take j) x
      have h2 : (bs.take j).length ≤ 10 := by rw [List.length_take, HNB.out]; omega
      omega
    rw [hP1] at HQ HSJ2
    obtain ⟨pl, hpl⟩ : ∃ n, P1.length = n := ⟨_, rfl⟩
    rw [hpl] at hP1l
    obtain ⟨uo, uc, hu, -, -⟩ := HQ.out.1.sp.shapeN hpl
    subst hu
    obtain ⟨P, h1, h2, h3, hrow⟩ := HQ.out.1
    rw [hpl] at hrow
    have HPP := Lib.hid (And.intro h1 (And.intro h2 h3))
    have HPL := Lib.hid hpl
    have hbelr : Below wb.heap.size wb wr := HQ.out.2.1
    have hszr : wb.heap.size ≤ wr.heap.size := hbelr.size
    clear hcell hs heq hSs hP1 hpl h1 h2 h3
    go_wp2_with (at_builtin; refine append2 [.string X0, .string X1] elLb rfl _ _ rfl hrow hbelr hszr rfl rfl rfl (by intro x hx; simp at hx; rcases hx with rfl | rfl <;> rfl) ?c4 ?c5 ?_)
    case c4 => omega
    case c5 => omega
    intro g7 c7 w7 hown7 hbel7 hgr7 hat7
    have HQ7 : Hid (Ow LbR 2 75 wb.heap.size w7 (.slice (some ⟨g7, 0, none⟩) (pl + 1) c7) (P0 ++ byR1 (bs.take (j + 1)) x) ∧ Below wb.heap.size wb w7 ∧ w7.heap[zb]? = some (.cells #[.string X0, .string X1] 75 (0, 0)) ∧ (Value.slice (some ⟨g7, 0, none⟩) (pl + 1) c7).ownBlock ≠ some zb) := Lib.hid (by
      have l1 := (Array.getElem?_eq_some_iff.1 HQ.out.2.2.1).1
      rw [HSJ2.out]
      refine ⟨ow_lbs_snoc HPP.out hrow HPL.out hgr7 (by rw [HX0.out.1, HX0.out.2]; exact hown7) (by have h := HLX.out wr; rw [← HX0.out.1, ← HX0.out.2] at h; exact h), hbel7, (hgr7.block zb l1 (fun e => HQ.out.2.2.2 e.symm)).trans HQ.out.2.2.1, fun e => ?_⟩
      have e2 : g7 = zb := by simpa [Value.ownBlock] using e
      rcases hat7 with h | h
      · exact HQ.out.2.2.2 (by rw [← h, e2])
      · omega)
    clear hown7 hbel7 hgr7 hat7 hrow hbelr hszr q0 q1 c0 t1
    go_wp2_with fail
    go_roundw
    case rel => exact ⟨j + 1, by omega, by go_num, HQ7⟩
    case measure => simp [intOf]; omega
  obtain rfl : i = tl := by omega
  have HLF : Hid (Sp LbR 2 wr u15 (byR bs L)) := Lib.hid (by
    have h := HLI.out.sp
    rwa [List.take_of_length_le (by rw [HTL.out]; exact Nat.le_refl _)] at h)
  have HRr := Lib.hid (HRb.out.below HBI.out)
  have HXr := Lib.hid ((HBI.out.block bx (Array.getElem?_eq_some_iff.1 HXb.out).1).trans HXb.out)
  have HYr := Lib.hid ((HBI.out.block yb (Array.getElem?_eq_some_iff.1 HSB.out).1).trans HSB.out)
  have HBr := Lib.hid (HBb.out.trans (HBI.out.mono HBb.out.size))
  have HF0 : Hid (labelF (byR bs L) = 0) := Lib.hid (by rw [byR_is HBS.out]; exact label_filter _ HL0.out)
  have HMO := Lib.hid (fun z => more2_any R (byR bs L) z u7 u15 5 bx #[] wr HRr.out.1 HLF.out HFN.out.gd HF0.out (by have := HFN.out.len; omega) (fun W hb => ⟨_, _, _, _, _, (hb.block bx (Array.getElem?_eq_some_iff.1 HXr.out).1).trans HXr.out⟩))
  obtain ⟨bl, hbl⟩ : ∃ n, (byR bs L).length = n := ⟨_, rfl⟩
  obtain ⟨lo15, lc15, hu15, -, -⟩ := HLF.out.shapeN hbl
  subst hu15
  have HST : Hid ((S.take (k + 1)).foldl (fun o y => moreF (opK 5) (gdR 5 bs y) o) [] = moreF (opK 5) (byR bs L, 1) R) := Lib.hid (by rw [HNX.out]; rfl)
  obtain ⟨⟨s0, s1⟩, -⟩ := bx2 HYr.out
  obtain ⟨⟨z0, -, -, -, -, -⟩, -⟩ := bx6 HXr.out
  have hmf : ∀ (fn : Fn) (first cap : Array Value) (w : World), (Instr.makeFunc fn first cap).run Tryz.prog w = .ok (.func fn first cap) w := fun _ _ _ _ => rfl
  clear hbl HLI HBI
  go_wp2_with fail
  refine (HMO.out 1).mono ?_
  intro e w5 hP
  obtain ⟨v5, rfl, ha5, hb5⟩ := hP.as HRr.out.2
  have HR5 : Hid (AsAt w ((S.take (k + 1)).foldl (fun o y => moreF (opK 5) (gdR 5 bs y) o) []) v5 w5) := Lib.hid (by rw [HST.out]; exact ha5)
  have HB5 := Lib.hid (HBr.out.trans (hb5.mono HBr.out.size))
  clear hP ha5 hb5 s0 s1 z0
  go_wp2_with fail
  go_roundw
  case rel => exact ⟨k + 1, by omega, by go_num, HR5, HB5⟩
  case measure => simp [intOf]; omega
end Go.Proofs.YtjmplhkdohlbcaaGreatDoor.Evl
/-
  The document's product of words, for the expressions.
-/
namespace Go.Proofs.YtjmplhkdohlbcaaGreatDoor.EvT
open Go.RowKit Go.Gh
set_option linter.unusedVariables false
def mulE (x c : Int) : Int := IntKind.u64.wrap (x * c)
def M64 : Int := 18446744073709551616
theorem mulE_eq (a b : Int) : mulE a b = a * b % M64 := by unfold mulE M64; exact IntKind.wrap_u64 _
/-- One round of 'times': the sum that is to come stays the same. -/
theorem times_odd (n a b : Int) (hb : b % 2 = 1) : ((n + a) % M64 + (a + a) % M64 * (b / 2)) % M64 = (n + a * b) % M64 := by
  have e : a * b = a + (a + a) * (b / 2) := by
    have : b = 2 * (b / 2) + 1 := by omega
    rw [show a * b = a * (2 * (b / 2) + 1) from by rw [← this]]
    generalize b / 2 = c
    rw [Int.mul_add, Int.mul_one, Int.add_comm, Int.add_mul, Int.mul_left_comm, Int.two_mul]
  rw [e, Int.add_emod, Int.emod_emod_of_dvd _ (Int.dvd_refl _), Int.mul_emod, Int.emod_emod_of_dvd _ (Int.dvd_refl _), ← Int.mul_emod, ← Int.add_emod, Int.add_assoc]
theorem times_even (n a b : Int) (hb : b % 2 = 0) : (n + (a + a) % M64 * (b / 2)) % M64 = (n + a * b) % M64 := by
  have e : a * b = (a + a) * (b / 2) := by
    have : b = 2 * (b / 2) := by omega
    rw [show a * b = a * (2 * (b / 2)) from by rw [← this]]
    generalize b / 2 = c
    rw [Int.mul_left_comm, Int.two_mul, Int.add_mul]
  rw [e, Int.add_emod, Int.mul_emod, Int.emod_emod_of_dvd _ (Int.dvd_refl _), ← Int.mul_emod, ← Int.add_emod]
theorem times_any (a b : Int) (ha : 0 ≤ a) (ha1 : a < M64) (hb : 0 ≤ b) (hb1 : b < M64) (w : World) :
    Calls Tryz.prog 63 #[.int .u64 a, .int .u64 b] w fun e w' => e = .returned (.int .u64 (mulE a b)) ∧ w = w' := by
  go_enter Tryz.func63, Tryz.ntmps63
  go_wp2
  go_loop [0, 1, 5] (fun x y n => ∃ A B N : Int, x = .int .u64 A ∧ y = .int .u64 B ∧ n = .int .u64 N ∧ 0 ≤ A ∧ 0 ≤ B ∧ 0 ≤ N ∧ N < M64 ∧ B < 18446744073709551616 ∧ Hid ((N + A * B) % M64 = mulE a b)) (fun _ y _ => (intOf y).toNat)
  case atStart => exact ⟨a, b, 0, rfl, rfl, rfl, ha, hb, by decide, by decide, hb1, by show _ = _; rw [Int.zero_add, mulE_eq]⟩
  case round =>
    obtain ⟨A, B, N, rfl, rfl, rfl, hA, hB, hN, hN1, hB1, hs⟩ := hrel
    by_cases hB0 : 0 < B
    · have hq : 0 ≤ B / 2 := by omega
      have hm : (B / 2).toNat < B.toNat := by omega
      have hr1 : 0 ≤ (A + A) % M64 := Int.emod_nonneg _ (by decide)
      have hr2 : 0 ≤ (N + A) % M64 := Int.emod_nonneg _ (by decide)
      have hr3 : (N + A) % M64 < M64 := Int.emod_lt_of_pos _ (by decide)
      by_cases hodd : (B % 2 == 1) = true
      · have H1 : Hid (((N + A) % M64 + (A + A) % M64 * (B / 2)) % M64 = mulE a b) := (times_odd N A B (by simpa using hodd)).trans hs
        go_wp2
        go_round
        case rel => exact ⟨_, _, _, rfl, rfl, rfl, by rw [IntKind.wrap_u64]; exact hr1, hq, by rw [IntKind.wrap_u64]; exact hr2, by rw [IntKind.wrap_u64]; exact hr3, by omega, by rw [IntKind.wrap_u64, IntKind.wrap_u64]; exact H1⟩
        case measure => simp [intOf]; omega
      · have H1 : Hid ((N + (A + A) % M64 * (B / 2)) % M64 = mulE a b) := (times_even N A B (by simp at hodd; omega)).trans hs
        go_wp2
        go_round
        case rel => exact ⟨_, _, _, rfl, rfl, rfl, by rw [IntKind.wrap_u64]; exact hr1, hq, hN, hN1, by omega, by rw [IntKind.wrap_u64]; exact H1⟩
        case measure => simp [intOf]; omega
    · have hB2 : B = 0 := by omega
      subst hB2
      have e : N = mulE a b := by have := RowKit.Hid.out hs; rw [Int.mul_zero, Int.add_zero, Int.emod_eq_of_lt hN hN1] at this; exact this
      have HE := Lib.hid e
      clear e hs
      go_wp2
      go_ret
      exact ⟨ret_int HE.out, rfl⟩
theorem mul_wrap (a b : Int) : IntKind.i64.wrap (mulE (IntKind.u64.wrap a) (IntKind.u64.wrap b)) = IntKind.i64.wrap (a * b) := by
  rw [mulE_eq, IntKind.wrap_u64, IntKind.wrap_u64, IntKind.wrap_i64, IntKind.wrap_i64]
  unfold M64
  rw [← Int.mul_emod, Int.emod_add_emod]
theorem u64_bd (a : Int) : 0 ≤ IntKind.u64.wrap a ∧ IntKind.u64.wrap a < M64 := by
  rw [IntKind.wrap_u64]
  exact ⟨Int.emod_nonneg _ (by decide), Int.emod_lt_of_pos _ (by decide)⟩
end Go.Proofs.YtjmplhkdohlbcaaGreatDoor.EvT
