/-
  Tallies of what is heavy: the walk of TalliesMerged.
-/
import Derived.Test.YtcljeedmiobepaaHv7
import Derived.Test.YtcljeedmiobepaaHmLaw
namespace Go.Proofs.Ytcljeedmiobepaa.Hv
open Go.RowKit Go.Gh
set_option linter.unusedVariables false
/-- A slice's cells lie apart from the boxes. -/
def Apart (ao : Option Addr) (p bx : Nat) : Prop := ∀ g o, ao = some ⟨g, o, none⟩ → 0 < p → g < bx ∨ bx + 2 < g
theorem sp_store {α : Type} {R : World → α → List Value → Prop} {k : Nat} {w : World} {ao : Option Addr} {p c b j : Nat} {L : List α} {u : Value} (hR : ∀ (w w' : World) (a : α) (cs : List Value), R w a cs → R w' a cs) (h : Sp R k w (.slice ao p c) L) (hne : ∀ g o, ao = some ⟨g, o, none⟩ → 0 < p → g ≠ b) : Sp R k (w.setCell ⟨b, j, none⟩ u) (.slice ao p c) L := by
  obtain ⟨P, h1, h2, h3, ao', cap, e, h4, h5, h6, h7, h8⟩ := h
  simp at e
  obtain ⟨rfl, rfl, rfl⟩ := e
  refine ⟨P, h1, h2, fun q hq => hR _ _ _ _ (h3 q hq), ao, c, rfl, h4, h5, h6, h7, fun hn => ?_⟩
  obtain ⟨g, off, rfl, hc⟩ := h8 hn
  refine ⟨g, off, rfl, fun i x hx => ?_⟩
  have hd : (⟨b, j, none⟩ : Addr) ≠ ⟨g, off + i, none⟩ := fun e => hne g off rfl hn (congrArg Addr.block e).symm
  have he : (w.setCell ⟨b, j, none⟩ u).cell? ⟨g, off + i, none⟩ = w.cell? ⟨g, off + i, none⟩ := by apply World.cell?_setCell_other; exact hd
  rw [he]
  exact hc i x hx
theorem sp_stores {α : Type} {R : World → α → List Value → Prop} {k : Nat} {ao : Option Addr} {p c b : Nat} {L : List α} (hR : ∀ (w w' : World) (a : α) (cs : List Value), R w a cs → R w' a cs) (hne : ∀ g o, ao = some ⟨g, o, none⟩ → 0 < p → g ≠ b) : ∀ (us : List Value) (w : World) (j : Nat), Sp R k w (.slice ao p c) L → Sp R k (setCells w b j us) (.slice ao p c) L
  | [], w, j, h => h
  | u :: us, w, j, h => sp_stores hR hne us _ (j + 1) (sp_store hR h hne)
theorem ctR_any (w w' : World) (a : Ct) (cs : List Value) (h : CtR w a cs) : CtR w' a cs := h
/-- What stands in memory: the box that is made anew, the other's, the result's. -/
structure RfAt (w : World) (bx : Nat) (x3 : Obj) (K N F : Int) (L : List Ct) (ao : Option Addr) (p c : Nat) (wx : World) : Prop where
  box : wx.heap[bx]? = some (.cells #[.int .i64 K, .slice ao p c, .int .i64 N, .int .i64 F] 86 (0, 0))
  b3 : wx.heap[bx + 1]? = some x3
  b4 : wx.heap[bx + 1 + 1]? = some (.cells #[.int .i64 0, .slice none 0 0, .int .i64 0, .int .i64 0] 86 (0, 0))
  sp : Sp CtR 2 wx (.slice ao p c) L
  ne : Apart ao p bx
  low : w.heap.size ≤ bx
  bel : Below w.heap.size w wx
  len : L.length = p
section
variable {w : World} {bx : Nat} {x3 : Obj} {K N F : Int} {L : List Ct} {ao : Option Addr} {p c : Nat} {wx wy : World}
theorem RfAt.lt (h : RfAt w bx x3 K N F L ao p c wx) : bx + 1 + 1 < wx.heap.size := (Array.getElem?_eq_some_iff.1 h.b4).1
theorem RfAt.below (h : RfAt w bx x3 K N F L ao p c wx) (hb : Below wx.heap.size wx wy) : RfAt w bx x3 K N F L ao p c wy :=
  ⟨(hb.block _ (by have := h.lt; omega)).trans h.box, (hb.block _ (by have := h.lt; omega)).trans h.b3, (hb.block _ (by have := h.lt; omega)).trans h.b4, h.sp.below ctR_mono hb, h.ne, h.low, h.bel.trans (hb.mono h.bel.size), h.len⟩
theorem RfAt.num (h : RfAt w bx x3 K N F L ao p c wx) (N' : Int) : RfAt w bx x3 K N' F L ao p c (wx.setCell ⟨bx, 2, none⟩ (.int .i64 N')) := by
  have := row_setCell 2 (.int .i64 N') h.box
  exact ⟨by simpa using this, row_setCell_other _ h.b3 (by omega), row_setCell_other _ h.b4 (by omega), sp_store ctR_any h.sp (fun g o e hp => by have := h.ne g o e hp; omega), h.ne, h.low, h.bel.setCell (p := ⟨bx, 2, none⟩) h.low _, h.len⟩
theorem RfAt.off (h : RfAt w bx x3 K N F L ao p c wx) (F' : Int) : RfAt w bx x3 K N F' L ao p c (wx.setCell ⟨bx, 3, none⟩ (.int .i64 F')) := by
  have := row_setCell 3 (.int .i64 F') h.box
  exact ⟨by simpa using this, row_setCell_other _ h.b3 (by omega), row_setCell_other _ h.b4 (by omega), sp_store ctR_any h.sp (fun g o e hp => by have := h.ne g o e hp; omega), h.ne, h.low, h.bel.setCell (p := ⟨bx, 3, none⟩) h.low _, h.len⟩
/-- Another row is put into the box. -/
theorem RfAt.put {L' : List Ct} {a1 : Option Addr} {p1 c1 B : Nat} (h : RfAt w bx x3 K N F L ao p c wx) (hB : bx + 2 < B) (how : Ow CtR 2 175 B wx (.slice a1 p1 c1) L') (hl : L'.length = p1) : RfAt w bx x3 K N F L' a1 p1 c1 (wx.setCell ⟨bx, 1, none⟩ (.slice a1 p1 c1)) := by
  have hsp := how.sp
  obtain ⟨P, h1, h2, h3, h4⟩ := how
  have := row_setCell 1 (.slice a1 p1 c1) h.box
  have hap : Apart a1 p1 bx := fun g o e hp => by
    subst e
    have := (h4.lt g rfl).1
    omega
  exact ⟨by simpa using this, row_setCell_other _ h.b3 (by omega), row_setCell_other _ h.b4 (by omega), sp_store ctR_any hsp (fun g o e hp => by have := hap g o e hp; omega), hap, h.low, h.bel.setCell (p := ⟨bx, 1, none⟩) h.low _, hl⟩
theorem RfAt.fin (h : RfAt w bx x3 K N F L ao p c wx) (us : List Value) : HvV (setCells wx (bx + 1 + 1) 0 us) (.agg #[.int .i64 K, .slice ao p c, .int .i64 N, .int .i64 F]) ⟨K, L, N, F⟩ :=
  ⟨_, rfl, sp_stores ctR_any (fun g o e hp => by have := h.ne g o e hp; omega) us _ 0 h.sp⟩
end
set_option maxHeartbeats 8000000 in
set_option maxRecDepth 100000 in
theorem talliesmerged_any (v v' : Value) (a b : Hv) (w : World) (hva : HvV w v a) (hvb : HvV w v' b) (hwa : wellH a) (hwb : wellH b) :
    Calls Try.prog 58 #[v, v'] w fun e w' => ∃ u, e = .returned u ∧ HvV w' u (mergedF a b) ∧ Below w.heap.size w w' := by
  obtain ⟨ta, rfl, hs⟩ := hva
  obtain ⟨tb, rfl, ht⟩ := hvb
  obtain ⟨ao, ca, rfl, hnc, hca⟩ := hs.shape
  obtain ⟨bo, cb, rfl, hmc, hcb⟩ := ht.shape
  obtain ⟨n, hn⟩ : ∃ n, a.l.length = n := ⟨_, rfl⟩
  obtain ⟨m, hm⟩ : ∃ n, b.l.length = n := ⟨_, rfl⟩
  rw [hn] at hs hnc ⊢
  rw [hm] at ht hmc ⊢
  have HNN := Lib.hid hn
  have HMM := Lib.hid hm
  have HT := Lib.hid ht
  have HW1 := Lib.hid hwa
  have HW2 := Lib.hid hwb
  obtain ⟨l1, l2, l3, l4, l5, l6, l7⟩ := headH_ok.1 hwa.1
  obtain ⟨c1, c2, c3, c4, c5, c6, c7⟩ := headH_ok.1 hwb.1
  rw [hn] at l3
  rw [hm] at c3
  have j1 : IntKind.i64.wrap (a.n + b.n) = a.n + b.n := IntWalk.i64_in _ (by omega)
  have j2 : IntKind.i64.wrap (a.off + b.off) = a.off + b.off := IntWalk.i64_in _ (by omega)
  have j3 : IntKind.i64.wrap (a.k + 1) = a.k + 1 := IntWalk.i64_in _ (by omega)
  obtain ⟨bx, hbx⟩ : ∃ bx, w.heap.size = bx := ⟨_, rfl⟩
  have hap : Apart ao n bx := fun g o e hp => by
    obtain ⟨P, _, _, _, ao', cap, e1, _, _, _, h7, h8⟩ := hs
    simp at e1
    rw [hn] at h8
    obtain ⟨g', o', e2, hc⟩ := h8 hp
    rw [← e1.1, e] at e2
    simp at e2
    obtain ⟨rfl, rfl⟩ := e2
    have hpl : 0 < (pc P).length := by rw [h7, hn]; omega
    have := cell_lt (hc 0 _ (List.getElem?_eq_getElem hpl))
    omega
  obtain ⟨wA, hwA⟩ : ∃ wA, wA = ((w.alloc (Obj.cells #[.int .i64 a.k, .slice ao n ca, .int .i64 a.n, .int .i64 a.off] 86)).alloc (Obj.cells #[.int .i64 b.k, .slice bo m cb, .int .i64 b.n, .int .i64 b.off] 86)).alloc (Obj.cells #[.int .i64 0, .slice none 0 0, .int .i64 0, .int .i64 0] 86) := ⟨_, rfl⟩
  have hR0 : RfAt w bx (.cells #[.int .i64 b.k, .slice bo m cb, .int .i64 b.n, .int .i64 b.off] 86) a.k a.n a.off a.l ao n ca wA := by
    have hbA : Below w.heap.size w wA := by rw [hwA]; exact (((Below.refl _ w).alloc (Nat.le_refl _) _).alloc (by simp) _).alloc (by simp; omega) _
    refine ⟨?_, ?_, ?_, hs.below ctR_mono hbA, hap, by omega, hbA, hn⟩
    · rw [hwA, ← hbx, Below.heap_alloc _ _ _ (by simp; omega)]
      exact two_first w _ _
    · rw [hwA, ← hbx, Below.heap_alloc _ _ _ (by simp)]
      exact two_second w _ _
    · rw [hwA, ← hbx]
      have := heap_alloc_new ((w.alloc (Obj.cells #[.int .i64 a.k, .slice ao n ca, .int .i64 a.n, .int .i64 a.off] 86)).alloc (Obj.cells #[.int .i64 b.k, .slice bo m cb, .int .i64 b.n, .int .i64 b.off] 86)) (Obj.cells #[.int .i64 0, .slice none 0 0, .int .i64 0, .int .i64 0] 86)
      rwa [World.size_alloc, World.size_alloc] at this
  have HR0 := Lib.hid hR0
  have HR1 := Lib.hid (hR0.num (a.n + b.n))
  have HR2 := Lib.hid ((hR0.num (a.n + b.n)).off (a.off + b.off))
  have HW := Lib.hid hwA
  have HBX := Lib.hid hbx
  clear hn hm hs ht hwa hwb hap hwA hR0 hbx
  go_enter Try.func58, Try.ntmps58
  go_upto_region 1 with (fail)
  rw [← HW.out]
  have hlow : w.heap.size ≤ bx := Nat.le_of_eq HBX.out
  rw [HBX.out]
  obtain ⟨⟨d0, d1, d2, d3⟩, ⟨f0, f1, f2, f3⟩⟩ := bx4 HR0.out.box
  obtain ⟨⟨e0, e1, e2, e3⟩, -⟩ := bx4 HR0.out.b3
  obtain ⟨⟨g0, g1, g2, g3⟩, ⟨k0, k1, k2, k3⟩⟩ := bx4 HR1.out.box
  obtain ⟨⟨y0, y1, y2, y3⟩, -⟩ := bx4 HR1.out.b3
  go_upto_region 3 with (fail)
  obtain ⟨wB, hwB⟩ : ∃ x, x = (wA.setCell ⟨bx, 2, none⟩ (.int .i64 (a.n + b.n))).setCell ⟨bx, 3, none⟩ (.int .i64 (a.off + b.off)) := ⟨_, rfl⟩
  rw [← hwB]
  have HRB : Hid (RfAt w bx (.cells #[.int .i64 b.k, .slice bo m cb, .int .i64 b.n, .int .i64 b.off] 86) a.k (a.n + b.n) (a.off + b.off) a.l ao n ca wB) := Lib.hid (by rw [hwB]; exact HR2.out)
  clear hwB HW HR0 HR1 HR2 d0 d1 d2 d3 f0 f1 f2 f3 e0 e1 e2 e3 g0 g1 g2 g3 k0 k1 k2 k3 y0 y1 y2 y3
  obtain ⟨⟨e0, e1, e2, e3⟩, -⟩ := bx4 HRB.out.b3
  go_wp2_with fail
  go_loopw [28] (fun i wx => ∃ (j : Nat) (ro : Option Addr) (p rc : Nat), j ≤ m ∧ i = .int .i64 j ∧ Hid (RfAt w bx (.cells #[.int .i64 b.k, .slice bo m cb, .int .i64 b.n, .int .i64 b.off] 86) a.k (a.n + b.n) (a.off + b.off) (foldC a.l (b.l.take j)) ro p rc wx)) (fun i _ => m - (intOf i).toNat)
  case atStart => exact ⟨0, _, _, _, Nat.zero_le _, rfl, HRB⟩
  case round =>
    obtain ⟨j, ro, p, rc, hj, rfl, HM⟩ := hrel
    have hfold := fold_on HW1.out HW2.out (k := j) (by rw [HMM.out]; exact hj)
    by_cases hlt : j < m
    · obtain ⟨x, hx⟩ : ∃ x, b.l[j]? = some x := ⟨_, List.getElem?_eq_getElem (by rw [HMM.out]; exact hlt)⟩
      obtain ⟨bb, off, cs, rfl, rfl, _, hck⟩ := (HT.out.below ctR_mono HM.out.bel).get hx
      have d0 := hck 0 _ rfl
      have d1 := hck 1 _ rfl
      rw [Nat.add_zero] at d0
      have hxk := (ris_of HW2.out.2.1).1 x (List.mem_of_getElem? hx)
      have hxs : x.n ≤ 1000000000 := by
        have h1 := sumN_mem (fun y hy => ((ris_of HW2.out.2.1).1 y hy).2) (List.mem_of_getElem? hx)
        have h2 := well_sum HW2.out
        omega
      have HFT : Hid (foldC a.l (b.l.take (j + 1)) = cnted x.ky x.n (foldC a.l (b.l.take j)) false) := Lib.hid (foldC_take hx)
      obtain ⟨L, hL⟩ : ∃ L, foldC a.l (b.l.take j) = L := ⟨_, rfl⟩
      rw [hL] at HM HFT hfold
      obtain ⟨hris, hLl, hLb⟩ := hfold
      rw [HNN.out] at hLl
      have HRIS := Lib.hid hris
      have HLB := Lib.hid hLb
      have hpl := HM.out.len
      clear hck hx hL hris hLb e0 e1 e2 e3
      go_upto_region 6 with (fail)
      obtain ⟨wC, hwC⟩ : ∃ wC, wC = wr.alloc (Obj.cells #[.string x.ky, .int .i64 x.n] 175) := ⟨_, rfl⟩
      have hbC : Below wr.heap.size wr wC := by rw [hwC]; exact (Below.refl _ _).alloc (Nat.le_refl _) _
      have hbox : wC.heap[wr.heap.size]? = some (.cells #[.string x.ky, .int .i64 x.n] 175 (0, 0)) := by rw [hwC]; exact heap_alloc_new wr _
      rw [← hwC]
      have HMC := Lib.hid (HM.out.below hbC)
      obtain ⟨bt, hbt⟩ : ∃ bt, wr.heap.size = bt := ⟨_, rfl⟩
      rw [hbt] at hbox ⊢
      obtain ⟨⟨m0, m1, m2, m3⟩, -⟩ := bx4 HMC.out.box
      obtain ⟨⟨n0, n1⟩, -⟩ := bx2 hbox
      clear hwC hbC hbt hbox d0 d1
      go_wp2_with fail
      refine (counted_any _ x.ky x.n L _ HMC.out.sp (by omega) (by omega) (by omega) (fun y hy => by have := HLB.out y hy; omega) hxk.1 (fun y hy => (HRIS.out.1 y hy).1)).mono ?_
      rintro e w3 ⟨v3, rfl, how3, hb3⟩
      obtain ⟨q3, hq3⟩ : ∃ n, (cnted x.ky x.n L false).length = n := ⟨_, rfl⟩
      obtain ⟨ao3, c3', e3, -, -⟩ := how3.sp.shape
      rw [hq3] at e3
      subst e3
      have HM3 := HMC.out.below hb3
      have hnew := HM3.put (B := wC.heap.size) HMC.out.lt how3 hq3
      rw [← HFT.out] at hnew
      have HN := Lib.hid hnew
      clear m0 m1 m2 m3 n0 n1 hnew how3 hb3
      obtain ⟨⟨m0, m1, m2, m3⟩, ⟨f0, f1, f2, f3⟩⟩ := bx4 HM3.box
      clear HM3
      go_wp2_with fail
      go_roundw
      case rel => exact ⟨j + 1, _, _, _, by omega, by go_num, HN⟩
      case measure => simp [intOf]; omega
    · have hjm : j = m := by omega
      subst hjm
      obtain ⟨L, hL⟩ : ∃ L, foldC a.l b.l = L := ⟨_, rfl⟩
      rw [List.take_of_length_le (by rw [HMM.out]; exact Nat.le_refl _), hL] at HM hfold
      obtain ⟨hris, hLl, hLb⟩ := hfold
      rw [HNN.out] at hLl
      have hpl := HM.out.len
      have HL := Lib.hid hL
      have HLB := Lib.hid hLb
      clear hL hris hLb e0 e1 e2 e3 hlt
      by_cases hle : (p : Int) ≤ a.k
      · have HMF : Hid (mergedF a b = ⟨a.k, L, a.n + b.n, a.off + b.off⟩) := Lib.hid (by unfold mergedF; rw [HL.out, hpl, if_pos hle])
        have HME := HM
        obtain ⟨⟨a0, a1, a2, a3⟩, -⟩ := bx4 HME.out.box
        have z2 := HME.out.b4
        obtain ⟨⟨r0, r1, r2, r3⟩, ⟨h0, h1, h2, h3⟩⟩ := bx4 z2
        have hst := bx4_store (.int .i64 a.k) (.slice ro p rc) (.int .i64 (a.n + b.n)) (.int .i64 (a.off + b.off)) z2
        obtain ⟨⟨s0, s1, s2, s3⟩, -⟩ := bx4 hst
        have HBF := Lib.hid (bx4_below (.int .i64 a.k) (.slice ro p rc) (.int .i64 (a.n + b.n)) (.int .i64 (a.off + b.off)) (show w.heap.size ≤ bx + 1 + 1 by omega) HME.out.bel)
        have HSF := Lib.hid (HME.out.fin [.int .i64 a.k, .slice ro p rc, .int .i64 (a.n + b.n), .int .i64 (a.off + b.off)])
        clear hst z2
        go_wp2_with fail
        refine bodyPost_ret (v := .agg #[.int .i64 a.k, .slice ro p rc, .int .i64 (a.n + b.n), .int .i64 (a.off + b.off)]) (by simp [results, Try.results58, go_sem, s0, s1, s2, s3]) rfl ?_
        refine ⟨_, rfl, ?_, HBF.out⟩
        rw [HMF.out]
        exact HSF.out
      · have hmf : mergedF a b = ⟨a.k, lessF (mostK a.k L p) L, a.n + b.n, a.off + b.off + mostK a.k L p⟩ := by unfold mergedF; rw [HL.out, hpl, if_neg hle]
        have HMF := Lib.hid hmf
        obtain ⟨wE, rfl⟩ : ∃ x, x = wr := ⟨_, rfl⟩
        have HME0 := HM
        obtain ⟨⟨m0, m1, m2, m3⟩, -⟩ := bx4 HM.out.box
        clear hmf
        go_wp2_with fail
        go_loopw [7, 51] (fun t i wx => ∃ q : Nat, q ≤ p ∧ i = .int .i64 q ∧ t = .int .i64 (mostK a.k L q) ∧ Hid (RfAt w bx (.cells #[.int .i64 b.k, .slice bo j cb, .int .i64 b.n, .int .i64 b.off] 86) a.k (a.n + b.n) (a.off + b.off) L ro p rc wx)) (fun _ i _ => p - (intOf i).toNat)
        case atStart => exact ⟨0, Nat.zero_le _, rfl, rfl, HME0⟩
        case round =>
          obtain ⟨q, hq, rfl, rfl, HMQ⟩ := hrel
          by_cases hlt : q < p
          · obtain ⟨x, hx⟩ : ∃ x, L[q]? = some x := ⟨_, List.getElem?_eq_getElem (by rw [hpl]; exact hlt)⟩
            obtain ⟨bb, off, cs, rfl, rfl, _, hck⟩ := HMQ.out.sp.get hx
            have d0 := hck 0 _ rfl
            have d1 := hck 1 _ rfl
            rw [Nat.add_zero] at d0
            have HST : Hid (mostK a.k L (q + 1) = mostS a.k L (mostK a.k L q) x) := Lib.hid (mostK_succ hx)
            have hmb := most_bd (K := a.k) HLB.out q
            have hxb := HLB.out x (List.mem_of_getElem? hx)
            obtain ⟨M, hM⟩ : ∃ M, mostK a.k L q = M := ⟨_, rfl⟩
            rw [hM] at HST hmb ⊢
            clear hck hx hM m0 m1 m2 m3
            go_upto_region 14 with (fail)
            obtain ⟨wC, hwC⟩ : ∃ wC, wC = wr.alloc (Obj.cells #[.string x.ky, .int .i64 x.n] 175) := ⟨_, rfl⟩
            have hbC : Below wr.heap.size wr wC := by rw [hwC]; exact (Below.refl _ _).alloc (Nat.le_refl _) _
            have hbox : wC.heap[wr.heap.size]? = some (.cells #[.string x.ky, .int .i64 x.n] 175 (0, 0)) := by rw [hwC]; exact heap_alloc_new wr _
            rw [← hwC]
            have HMC := Lib.hid (HMQ.out.below hbC)
            obtain ⟨bt, hbt⟩ : ∃ bt, wr.heap.size = bt := ⟨_, rfl⟩
            rw [hbt] at hbox ⊢
            have HBT := Lib.hid hbox
            have hltb : bt < wC.heap.size := (Array.getElem?_eq_some_iff.1 hbox).1
            obtain ⟨⟨m0, m1, m2, m3⟩, -⟩ := bx4 HMC.out.box
            clear hwC hbC hbt hbox d0 d1 HMQ
            go_wp2_with fail
            go_loopw [10, 58] (fun t i wx => ∃ k : Nat, k ≤ p ∧ i = .int .i64 k ∧ t = .int .i64 (many (L.take k) x.n : Nat) ∧ Below wC.heap.size wC wx) (fun _ i _ => p - (intOf i).toNat)
            case atStart => exact ⟨0, Nat.zero_le _, rfl, rfl, Below.refl _ _⟩
            case round =>
              obtain ⟨k, hk, rfl, rfl, hbr⟩ := hrel
              have HMI := Lib.hid (HMC.out.below hbr)
              have hbt2 := (hbr.block bt hltb).trans HBT.out
              obtain ⟨⟨n0, n1⟩, -⟩ := bx2 hbt2
              have hltr : bt < wr.heap.size := (Array.getElem?_eq_some_iff.1 hbt2).1
              have hcl : many (L.take k) x.n ≤ k := by
                have := List.countP_le_length (p := fun d : Ct => decide (x.n ≤ d.n)) (l := L.take k)
                rw [List.length_take] at this
                unfold many
                omega
              by_cases hlt2 : k < p
              · obtain ⟨y, hy⟩ : ∃ y, L[k]? = some y := ⟨_, List.getElem?_eq_getElem (by rw [hpl]; exact hlt2)⟩
                obtain ⟨bb2, off2, cs2, e2, rfl, _, hck⟩ := HMI.out.sp.get hy
                simp only [Option.some.injEq, Addr.mk.injEq, and_true] at e2
                obtain ⟨rfl, rfl⟩ := e2
                have d0 := hck 0 _ rfl
                have d1 := hck 1 _ rfl
                rw [Nat.add_zero] at d0
                have hmt := manyTake (v := x.n) hy
                have hbA := hbr.alloc hbr.size (Obj.cells #[.string y.ky, .int .i64 y.n] 175)
                obtain ⟨-, n1'⟩ : (∀ o, (wr.alloc o).cell? ⟨bt, 0, none⟩ = some (.string x.ky)) ∧ (∀ o, (wr.alloc o).cell? ⟨bt, 1, none⟩ = some (.int .i64 x.n)) :=
                  ⟨fun o => (bx2 ((Below.heap_alloc wr o bt hltr).trans hbt2)).1.1, fun o => (bx2 ((Below.heap_alloc wr o bt hltr).trans hbt2)).1.2⟩
                clear hck hy m0 m1 m2 m3 hbt2
                by_cases hge : x.n ≤ y.n
                · rw [if_pos hge] at hmt
                  have HMT := Lib.hid hmt
                  clear hmt
                  go_wp2_with fail
                  go_roundw
                  case rel => exact ⟨k + 1, by omega, by go_num, by rw [HMT.out]; go_num, hbA⟩
                  case measure => simp [intOf]; omega
                · rw [if_neg hge] at hmt
                  have HMT := Lib.hid hmt
                  clear hmt
                  go_wp2_with fail
                  go_roundw
                  case rel => exact ⟨k + 1, by omega, by go_num, by rw [HMT.out]; rfl, hbA⟩
                  case measure => simp [intOf]; omega
              · have hkp : k = p := by omega
                subst hkp
                have hta : L.take k = L := List.take_of_length_le (by omega)
                rw [hta] at hcl ⊢
                obtain ⟨u, hu⟩ : ∃ u, many L x.n = u := ⟨_, rfl⟩
                have hst := HST.out
                unfold mostS at hst
                rw [hu] at hst hcl ⊢
                clear hta hu m0 m1 m2 m3 hbt2
                obtain ⟨⟨m0, m1, m2, m3⟩, -⟩ := bx4 HMI.out.box
                by_cases h1 : a.k + 1 ≤ (u : Int)
                · by_cases h2 : M < x.n
                  · rw [if_pos ⟨h1, h2⟩] at hst
                    have HST2 := Lib.hid hst
                    clear hst
                    go_wp2_with fail
                    go_roundw
                    case rel => exact ⟨q + 1, by omega, by go_num, by rw [HST2.out], HMI⟩
                    case measure => simp [intOf]; omega
                  · rw [if_neg (fun h => h2 h.2)] at hst
                    have HST2 := Lib.hid hst
                    clear hst
                    go_wp2_with fail
                    go_roundw
                    case rel => exact ⟨q + 1, by omega, by go_num, by rw [HST2.out], HMI⟩
                    case measure => simp [intOf]; omega
                · rw [if_neg (fun h => h1 h.1)] at hst
                  have HST2 := Lib.hid hst
                  clear hst
                  go_wp2_with fail
                  go_roundw
                  case rel => exact ⟨q + 1, by omega, by go_num, by rw [HST2.out], HMI⟩
                  case measure => simp [intOf]; omega
          · have hqp : q = p := by omega
            subst hqp
            have hzb := most_bd (K := a.k) HLB.out q
            obtain ⟨z, hz⟩ : ∃ z, mostK a.k L q = z := ⟨_, rfl⟩
            have hmf := HMF.out
            rw [hz] at hzb hmf ⊢
            have HMF2 := Lib.hid hmf
            have k3 : IntKind.i64.wrap (a.off + b.off + z) = a.off + b.off + z := IntWalk.i64_in _ (by omega)
            clear hz hmf HMF m0 m1 m2 m3
            have HMF := HMF2
            obtain ⟨⟨m0, m1, m2, m3⟩, -⟩ := bx4 HMQ.out.box
            go_wp2_with fail
            refine (lessened_any _ z L _ HMQ.out.sp (by omega) hzb.1 (by omega) (fun x hx => by have := HLB.out x hx; omega)).mono ?_
            rintro e w9 ⟨v9, rfl, how9, hb9⟩
            obtain ⟨q9, hq9⟩ : ∃ n, (lessF z L).length = n := ⟨_, rfl⟩
            obtain ⟨ao9, c9, e9, -, -⟩ := how9.sp.shape
            rw [hq9] at e9
            subst e9
            have HM9 := HMQ.out.below hb9
            have hM9 := HM9.put (B := wr.heap.size) HMQ.out.lt how9 hq9
            obtain ⟨⟨y0, y1, y2, y3⟩, ⟨z0, z1, z2, z3⟩⟩ := bx4 hM9.box
            have HME0 := Lib.hid (hM9.off (a.off + b.off + z))
            clear m0 m1 m2 m3 how9 hb9 hM9
            obtain ⟨⟨m0, m1, m2, m3⟩, ⟨f0, f1, f2, f3⟩⟩ := bx4 HM9.box
            clear HM9
            go_upto_region 26 with (fail)
            obtain ⟨wF, hwF⟩ : ∃ x, x = (w9.setCell ⟨bx, 1, none⟩ (.slice ao9 q9 c9)).setCell ⟨bx, 3, none⟩ (.int .i64 (a.off + b.off + z)) := ⟨_, rfl⟩
            have HME : Hid (RfAt w bx (.cells #[.int .i64 b.k, .slice bo j cb, .int .i64 b.n, .int .i64 b.off] 86) a.k (a.n + b.n) (a.off + b.off + z) (lessF z L) ao9 q9 c9 wF) := Lib.hid (by rw [hwF]; exact HME0.out)
            rw [← hwF]
            clear hwF HME0 m0 m1 m2 m3 f0 f1 f2 f3 y0 y1 y2 y3 z0 z1 z2 z3
            obtain ⟨⟨a0, a1, a2, a3⟩, -⟩ := bx4 HME.out.box
            have z2 := HME.out.b4
            obtain ⟨⟨r0, r1, r2, r3⟩, ⟨h0, h1, h2, h3⟩⟩ := bx4 z2
            have hst := bx4_store (.int .i64 a.k) (.slice ao9 q9 c9) (.int .i64 (a.n + b.n)) (.int .i64 (a.off + b.off + z)) z2
            obtain ⟨⟨s0, s1, s2, s3⟩, -⟩ := bx4 hst
            have HBF := Lib.hid (bx4_below (.int .i64 a.k) (.slice ao9 q9 c9) (.int .i64 (a.n + b.n)) (.int .i64 (a.off + b.off + z)) (show w.heap.size ≤ bx + 1 + 1 by omega) HME.out.bel)
            have HSF := Lib.hid (HME.out.fin [.int .i64 a.k, .slice ao9 q9 c9, .int .i64 (a.n + b.n), .int .i64 (a.off + b.off + z)])
            clear hst z2
            go_wp2_with fail
            refine bodyPost_ret (v := .agg #[.int .i64 a.k, .slice ao9 q9 c9, .int .i64 (a.n + b.n), .int .i64 (a.off + b.off + z)]) (by simp [results, Try.results58, go_sem, s0, s1, s2, s3]) rfl ?_
            refine ⟨_, rfl, ?_, HBF.out⟩
            rw [HMF.out]
            exact HSF.out
end Go.Proofs.Ytcljeedmiobepaa.Hv
