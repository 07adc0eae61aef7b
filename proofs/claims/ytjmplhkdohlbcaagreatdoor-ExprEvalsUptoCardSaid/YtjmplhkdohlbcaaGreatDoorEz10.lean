/-
  The walk of sel.
-/
import Derived.Test.YtjmplhkdohlbcaaGreatDoorEz4
import Derived.Test.YtjmplhkdohlbcaaGreatDoorEz8
import Derived.Test.YtjmplhkdohlbcaaGreatDoorEz9
import Derived.Deep.CutBlock
namespace Go.Proofs.YtjmplhkdohlbcaaGreatDoor.Evl
open Go.RowKit Go.Gh Go.WideShapes Go.Proofs.YtjmplhkdohlbcaaGreatDoor.Lab
set_option linter.unusedVariables false
set_option linter.unusedSimpArgs false
/-- What a row's walk answers. -/
def RsP (w : World) (S : List Rw) (e : Ending) (w' : World) : Prop := ∃ v, e = .returned v ∧ Ow (RwO w.heap.size) 3 98 w.heap.size w' v S ∧ Below w.heap.size w w'
def RowsAt (B : Nat) (W0 : World) (S : List Rw) (o : Value) (wr : World) : Prop := Ow (RwO B) 3 98 B wr o S ∧ Below B W0 wr ∧ B ≤ wr.heap.size
theorem RowsAt.below {B : Nat} {W0 wr w' : World} {S : List Rw} {o : Value} (h : RowsAt B W0 S o wr) (hb : Below wr.heap.size wr w') : RowsAt B W0 S o w' :=
  ⟨h.1.below (rwO_mono B) hb, h.2.1.trans (hb.mono h.2.2), Nat.le_trans h.2.2 hb.size⟩
theorem rows_low {B B' : Nat} {w : World} {v : Value} {S : List Rw} (h : Ow (RwO B) 3 98 B w v S) (hb : B' ≤ B) : Ow (RwO B') 3 98 B' w v S := by
  obtain ⟨P, h1, h2, h3, h4⟩ := h
  exact ⟨P, h1, h2, fun p hp => (h3 p hp).low hb, own_mono h4 hb⟩
theorem rw_grow (B : Nat) : Grow (RwO B) 98 3 B := fun w w' a c u m us h ho hg => h.turn hg (off_row ho (by decide))
theorem sel_len (all : List Srs) (now w : Int) (m : List Mt) : (selF all now w m).length ≤ all.length := List.length_filterMap_le _ _
theorem sel_step {all : List Srs} {k : Nat} {s : Srs} {now w : Int} {m : List Mt} (h : all[k]? = some s) : selF (all.take (k + 1)) now w m = selF (all.take k) now w m ++ (match selO now w m s with | none => [] | some r => [r]) := by
  unfold selF
  rw [List.take_add_one, h, List.filterMap_append, Option.toList_some, List.filterMap_cons]
  cases selO now w m s <;> rfl
theorem last_win {l : List (List Int)} {n : Nat} (h : l.length = n + 1) : ∃ z, l[n]? = some z ∧ l.getLast? = some z := by
  refine ⟨l[n], List.getElem?_eq_getElem (by omega), ?_⟩
  rw [List.getLast?_eq_getElem?, show l.length - 1 = n by omega]
  exact List.getElem?_eq_getElem (by omega)
set_option maxHeartbeats 8000000 in
set_option maxRecDepth 100000 in
theorem sel_any (all : List Srs) (v : Value) (now : Int) (ms : List Mt) (k0 k1 wd : Int) (um ub ux : Value) (w : World) (hv : Sp SrR 2 w v all) (hm : Sp MtR 3 w um ms) (hub : ∃ a n c, ub = .slice a n c) (hux : ∃ a n c, ux = .slice a n c) (hok : ∀ s ∈ all, labelF s.1 = 0 ∧ Smp.sampF s.2 = 0) (h0 : matchF ms = 0)
    (hw1 : 1 ≤ wd) (hw2 : wd ≤ 1099511627776) (hn1 : -1152921504606846976 ≤ now) (hn2 : now ≤ 1152921504606846976) (hl : all.length ≤ 200) (hT : STab w) (hM : MTab w) :
    Calls Tryz.prog 82 #[.agg #[v, .int .i64 now], .agg #[.int .i64 k0, .int .i64 k1, .int .i64 wd, um, ub, ux]] w (RsP w (selF all now wd ms)) := by
  obtain ⟨n, hn⟩ : ∃ n, all.length = n := ⟨_, rfl⟩
  obtain ⟨ao, c, rfl, hnc, hc⟩ := hv.shapeN hn
  obtain ⟨am, cm, rfl, -, -⟩ := hm.shape
  obtain ⟨lm, hlm⟩ : ∃ n, ms.length = n := ⟨_, rfl⟩
  rw [hlm] at hm ⊢
  obtain ⟨ab, lb, cb, rfl⟩ := hub
  obtain ⟨ax, lx, cx, rfl⟩ := hux
  obtain ⟨W, hW⟩ : ∃ W, W = (w.alloc (.cells #[.slice ao n c, .int .i64 now] 93)).alloc (.cells #[.int .i64 k0, .int .i64 k1, .int .i64 wd, .slice am lm cm, .slice ab lb cb, .slice ax lx cx] 38) := ⟨_, rfl⟩
  have hbW : Below w.heap.size w W := by rw [hW]; exact ((Below.refl _ w).alloc (Nat.le_refl _) _).alloc (by simp) _
  have hsz : W.heap.size = w.heap.size + 1 + 1 := by rw [hW]; simp
  have hb1 : W.heap[w.heap.size]? = some (.cells #[.slice ao n c, .int .i64 now] 93 (0, 0)) := by rw [hW]; exact two_first w _ _
  have hb2 : W.heap[w.heap.size + 1]? = some (.cells #[.int .i64 k0, .int .i64 k1, .int .i64 wd, .slice am lm cm, .slice ab lb cb, .slice ax lx cx] 38 (0, 0)) := by rw [hW]; exact two_second w _ _
  have HV := Lib.hid (hv.below srR_mono hbW)
  have HM := Lib.hid (hm.below mtR_mono hbW)
  have HT := Lib.hid (hT.below hbW)
  have HMT : Hid (MTab W) := Lib.hid (by obtain ⟨q, hq⟩ := hM; exact ⟨q, (hbW.cell (p := ⟨_, 0, none⟩) (cell_lt hq)).trans hq⟩)
  have HX1 := Lib.hid hb1
  have HX2 := Lib.hid hb2
  have HBW := Lib.hid hbW
  have HSZ := Lib.hid hsz
  have HOK := Lib.hid hok
  have H0 := Lib.hid h0
  have HN := Lib.hid hn
  have HLM := Lib.hid hlm
  have HL2 : Hid (n ≤ 200) := Lib.hid (by omega)
  have HNW := Lib.hid (And.intro hn1 hn2)
  have HWD := Lib.hid (And.intro hw1 hw2)
  have e1 : Hid (wrap64 (wrap64 (now - wd) + 1) = now - wd + 1) := Lib.hid (by have h := IntWalk.wrap64_in (now - wd) (by omega); rw [h]; exact IntWalk.wrap64_in _ (by omega))
  have e2 : Hid (wrap64 (now + 1) = now + 1) := Lib.hid (IntWalk.wrap64_in _ (by omega))
  clear hv hm hT hM hok h0 hn hl hlm hbW hsz hb1 hb2 hw1 hw2 hn1 hn2
  go_enter Tryz.func82, Tryz.ntmps82
  go_upto_region 2 with (fail)
  rw [← hW]
  clear hW
  generalize hbx : w.heap.size = bx at *
  obtain ⟨⟨a0, a1⟩, ⟨za0, za1⟩⟩ := bx2 HX1.out
  go_wp2_with fail
  have H00 : Hid (RowsAt W.heap.size W (selF (all.take 0) now wd ms) (.slice none 0 0) W) := Lib.hid ⟨by
    have e : selF (all.take 0) now wd ms = [] := rfl
    rw [e]; exact Ow.nil, Below.refl _ _, Nat.le_refl _⟩
  clear a0 a1 za0 za1
  go_loopw [15, 5] (fun i o wr => ∃ k : Nat, k ≤ n ∧ i = .int .i64 k ∧ Hid (RowsAt W.heap.size W (selF (all.take k) now wd ms) o wr)) (fun i _ _ => n - (intOf i).toNat)
  case atStart => exact ⟨0, Nat.zero_le _, rfl, H00⟩
  case round =>
    obtain ⟨k, hk, rfl, HR⟩ := hrel
    by_cases hlt : k < n
    case neg =>
      obtain rfl : k = n := by omega
      have HE : Hid (RsP w (selF all now wd ms) (.returned u5) wr) := Lib.hid (by
        obtain ⟨h1, h2, h3⟩ := HR.out
        rw [List.take_of_length_le (by rw [HN.out]; exact Nat.le_refl _)] at h1
        exact ⟨u5, rfl, rows_low h1 (by rw [HSZ.out, hbx]; omega), by rw [hbx]; exact HBW.out.trans (h2.mono (by rw [HSZ.out]; omega))⟩)
      go_wp2_with fail
      go_ret
      exact HE.out
    obtain ⟨q, hq⟩ : ∃ s, all[k]? = some s := ⟨_, List.getElem?_eq_getElem (by rw [HN.out]; exact hlt)⟩
    obtain ⟨L, Q⟩ := q
    have HBL := Lib.hid HR.out.2.1
    obtain ⟨b, off, cs, rfl, ⟨t, u, rfl, ht, hu, hr64, hul⟩, -, hcell⟩ := (HV.out.below srR_mono HBL.out).get hq
    obtain ⟨ta, tc, rfl, -, -⟩ := ht.shape
    obtain ⟨tl, htl⟩ : ∃ n, L.length = n := ⟨_, rfl⟩
    obtain ⟨uo, uc, rfl, -, -, -⟩ := hu.shape
    obtain ⟨ul, hull⟩ : ∃ n, Q.length = n := ⟨_, rfl⟩
    rw [htl] at ht hcell
    rw [hull] at hu hcell hul
    have c0 := hcell 0 _ rfl
    have c1 := hcell 1 _ rfl
    rw [Nat.add_zero] at c0
    have hLQ := HOK.out _ (List.mem_of_getElem? hq)
    have hFI : ∀ Wx, Below wr.heap.size wr Wx → Calls Tryz.prog 19 #[.slice ta tl tc, .slice am lm cm] Wx fun e w' => e = .returned (.tuple #[.bool (fitsB L ms), .int .i64 0]) ∧ Below Wx.heap.size Wx w' := fun Wx hb => by
      have h := fits_any (.slice ta tl tc) (.slice am lm cm) L ms Wx (ht.below lbR_mono hb) ((HM.out.below mtR_mono HBL.out).below mtR_mono hb) (by obtain ⟨q, hq⟩ := HMT.out; exact ⟨q, (hb.cell (p := ⟨_, 0, none⟩) (cell_lt ((HBL.out.cell (p := ⟨_, 0, none⟩) (cell_lt hq)).trans hq))).trans ((HBL.out.cell (p := ⟨_, 0, none⟩) (cell_lt hq)).trans hq)⟩)
      have e : fitsR L ms = (fitsB L ms, 0) := by unfold fitsR; rw [if_neg (by rw [hLQ.1]; decide), if_neg (by rw [H0.out]; decide)]
      rw [e] at h
      exact h
    have hRG : ∀ Wx, Below wr.heap.size wr Wx → Calls Tryz.prog 114 #[.slice uo ul uc, .int .i64 (wrap64 (wrap64 (now - wd) + 1)), .int .i64 (wrap64 (now + 1))] Wx (RowPost 101 2 Wx (winF now wd Q, 0)) := fun Wx hb => by
      rw [e1.out, e2.out]
      have h := Sam.range_any (.slice uo ul uc) ul Q (now - wd + 1) (now + 1) Wx (hu.below hb) hull hr64 hul
      have e : Sam.rangeR Q (now - wd + 1) (now + 1) = (winF now wd Q, 0) := if_pos hLQ.2
      rw [e] at h
      exact h
    have HFI := Lib.hid hFI
    have HRG := Lib.hid hRG
    have HT2 := Lib.hid ht
    have HQ := Lib.hid hq
    have HLQ := Lib.hid hLQ
    have HTL := Lib.hid htl
    have HBT := Lib.hid HBL.out
    have hk0 : (0 : Int) ≤ (k : Int) := by omega
    have hk1 : (k : Int) < (n : Int) := by omega
    obtain ⟨p, hp⟩ : ∃ p, (winF now wd Q).length = p := ⟨_, rfl⟩
    have HP := Lib.hid hp
    clear hcell ht hu hr64 hul hLQ hFI hRG htl hull hq hp
    obtain ⟨wb, hwb⟩ : ∃ wb, wb = wr.alloc (.cells #[.slice ta tl tc, .slice uo ul uc] 88) := ⟨_, rfl⟩
    have hBB : Below wr.heap.size wr wb := by rw [hwb]; exact (Below.refl _ wr).alloc (Nat.le_refl _) _
    have hsb : wb.heap[wr.heap.size]? = some (.cells #[.slice ta tl tc, .slice uo ul uc] 88 (0, 0)) := by rw [hwb]; exact heap_alloc_new wr _
    have hszb : wb.heap.size = wr.heap.size + 1 := by rw [hwb]; simp
    have h1b : wb.heap[bx]? = some (.cells #[.slice (some ⟨b, off, none⟩) n c, .int .i64 now] 93 (0, 0)) := (hBB.block bx (by have := HBL.out.size; rw [HSZ.out] at this; omega)).trans ((HBL.out.block bx (by rw [HSZ.out]; omega)).trans HX1.out)
    have h2b : wb.heap[bx + 1]? = some (.cells #[.int .i64 k0, .int .i64 k1, .int .i64 wd, .slice am lm cm, .slice ab lb cb, .slice ax lx cx] 38 (0, 0)) := (hBB.block (bx + 1) (by have := HBL.out.size; rw [HSZ.out] at this; omega)).trans ((HBL.out.block (bx + 1) (by rw [HSZ.out]; omega)).trans HX2.out)
    have HBB := Lib.hid hBB
    have HKB := Lib.hid (And.intro hsb (And.intro h1b h2b))
    have HSB := Lib.hid hszb
    obtain ⟨d0, d1⟩ := (bx2 hsb).1
    obtain ⟨-, -, -, d5, -, -⟩ := (bx6 h2b).1
    have HCR : Hid (Below wr.heap.size wr wr) := Lib.hid (Below.refl _ _)
    clear hBB hsb h1b h2b hszb
    cases hfb : fitsB L ms with
    | false =>
      rw [hfb] at HFI
      have HSE : Hid (selF (all.take (k + 1)) now wd ms = selF (all.take k) now wd ms) := Lib.hid (by
        rw [sel_step HQ.out]
        have e : selO now wd ms (L, Q) = none := if_neg (by rw [hfb]; decide)
        rw [e, List.append_nil])
      clear hfb
      go_upto_region 5 with (fail)
      rw [← hwb]
      clear hwb
      go_wp2_with (first
        | (go_at_call 19; refine (HFI.out _ HBB.out).mono ?_; rintro e w1 ⟨rfl, hb1⟩; have HB1 := Lib.hid hb1; obtain ⟨g0, g1⟩ := (bx2 ((hb1.block _ (by rw [HSB.out]; omega)).trans HKB.out.1)).1; obtain ⟨-, y1⟩ := (bx2 ((hb1.block bx (Array.getElem?_eq_some_iff.1 HKB.out.2.1).1).trans HKB.out.2.1)).1; obtain ⟨-, -, y2, -, -, -⟩ := (bx6 ((hb1.block (bx + 1) (Array.getElem?_eq_some_iff.1 HKB.out.2.2).1).trans HKB.out.2.2)).1; clear hb1)
        | (go_at_call 114; refine (HRG.out _ (HBB.out.trans (HB1.out.mono HBB.out.size))).mono ?_; rintro e w2 ⟨v2, rfl, ho2, hb2, hr2, hl2⟩; have HB2 := Lib.hid (HB1.out.trans (hb2.mono HB1.out.size)); have hrr := own_shape ho2; obtain ⟨vo, vc, rfl, -, -, -⟩ := hrr; clear hb2 ho2 hr2 hl2))
      exact ⟨⟨k + 1, by omega, by go_num, Lib.hid (by rw [HSE.out]; exact HR.out.below (HBB.out.trans (HB2.out.mono HBB.out.size)))⟩, by simp [intOf]; omega⟩
    | true =>
      rw [hfb] at HFI
      by_cases hp0 : p = 0
      · have HSE : Hid (selF (all.take (k + 1)) now wd ms = selF (all.take k) now wd ms) := Lib.hid (by
          rw [sel_step HQ.out]
          have e0 : winF now wd Q = [] := List.length_eq_zero_iff.1 (HP.out.trans hp0)
          have e : selO now wd ms (L, Q) = none := by
            unfold selO
            rw [if_pos hfb, e0]
            rfl
          rw [e, List.append_nil])
        subst hp0
        clear hfb
        go_upto_region 5 with (fail)
        rw [← hwb]
        clear hwb
        go_wp2_with (first
          | (go_at_call 19; refine (HFI.out _ HBB.out).mono ?_; rintro e w1 ⟨rfl, hb1⟩; have HB1 := Lib.hid hb1; obtain ⟨g0, g1⟩ := (bx2 ((hb1.block _ (by rw [HSB.out]; omega)).trans HKB.out.1)).1; obtain ⟨-, y1⟩ := (bx2 ((hb1.block bx (Array.getElem?_eq_some_iff.1 HKB.out.2.1).1).trans HKB.out.2.1)).1; obtain ⟨-, -, y2, -, -, -⟩ := (bx6 ((hb1.block (bx + 1) (Array.getElem?_eq_some_iff.1 HKB.out.2.2).1).trans HKB.out.2.2)).1; clear hb1)
          | (go_at_call 114; refine (HRG.out _ (HBB.out.trans (HB1.out.mono HBB.out.size))).mono ?_; rintro e w2 ⟨v2, rfl, ho2, hb2, hr2, hl2⟩; have HB2 := Lib.hid (HB1.out.trans (hb2.mono HB1.out.size)); have ho3 := ho2; dsimp only at ho3; rw [HP.out] at ho3; have hrr := own_shape ho3; obtain ⟨vo, vc, rfl, -, -, -⟩ := hrr; clear hb2 ho2 hr2 hl2 ho3))
        exact ⟨⟨k + 1, by omega, by go_num, Lib.hid (by rw [HSE.out]; exact HR.out.below (HBB.out.trans (HB2.out.mono HBB.out.size)))⟩, by simp [intOf]; omega⟩
      obtain ⟨p', hpp⟩ : ∃ p', p = p' + 1 := ⟨p - 1, by omega⟩
      obtain ⟨z, hz1, hz2⟩ := last_win (HP.out.trans hpp)
      have HSE : Hid (selF (all.take (k + 1)) now wd ms = selF (all.take k) now wd ms ++ [(L, rg z 1)]) := Lib.hid (by
        rw [sel_step HQ.out]
        have e : selO now wd ms (L, Q) = some (L, rg z 1) := by
          unfold selO
          rw [if_pos hfb, hz2]
        rw [e])
      have HZ := Lib.hid hz1
      have HPP2 := Lib.hid hpp
      have hppos : (0 : Int) < (p : Int) := by omega
      clear hfb hp0 hz1 hz2 hpp
      go_upto_region 5 with (fail)
      rw [← hwb]
      clear hwb
      go_upto_region 8 with (first
        | (go_at_call 19; refine (HFI.out _ HBB.out).mono ?_; rintro e w1 ⟨rfl, hb1⟩; have HB1 := Lib.hid hb1; obtain ⟨g0, g1⟩ := (bx2 ((hb1.block _ (by rw [HSB.out]; omega)).trans HKB.out.1)).1; obtain ⟨-, y1⟩ := (bx2 ((hb1.block bx (Array.getElem?_eq_some_iff.1 HKB.out.2.1).1).trans HKB.out.2.1)).1; obtain ⟨-, -, y2, -, -, -⟩ := (bx6 ((hb1.block (bx + 1) (Array.getElem?_eq_some_iff.1 HKB.out.2.2).1).trans HKB.out.2.2)).1; clear hb1)
        | (go_at_call 114; refine (HRG.out _ (HBB.out.trans (HB1.out.mono HBB.out.size))).mono ?_; rintro e w2 ⟨v2, rfl, ho2, hb2, hr2, hl2⟩; have HB2 := Lib.hid (HB1.out.trans (hb2.mono HB1.out.size)); have ho3 := ho2; dsimp only at ho3; rw [HP.out] at ho3; have hrr := own_shape ho3; obtain ⟨vo, vc, rfl, hvc1, hvc2, -⟩ := hrr; have HO2 := Lib.hid (And.intro ho3 hr2); clear hb2 ho2 hr2 hl2 ho3))
      obtain ⟨vg, rfl⟩ := Lab.own_some HO2.out.1 (by rw [HPP2.out]; omega)
      have hz0 : (winF now wd Q).getD p' [] = z := by rw [List.getD_eq_getElem?_getD, HZ.out]; rfl
      have f1 := (own_row HO2.out.1 HO2.out.2 HP.out (i := p') (j := 1) (by rw [HPP2.out]; omega) (by omega)).1
      rw [hz0] at f1
      have f1 : w2.cell? ⟨vg, p' * 2 + 1, none⟩ = some (.int .i64 (rg z 1)) := f1
      obtain ⟨ZV, hZV⟩ : ∃ ZV, rg z 1 = ZV := ⟨_, rfl⟩
      rw [hZV] at f1 HSE
      obtain ⟨f0, -⟩ := (bx2 ((HB2.out.block _ (by rw [HSB.out]; omega)).trans HKB.out.1)).1
      have hp9 : p ≤ 9223372036854775807 := Nat.le_trans hvc1 hvc2
      have hpp := HPP2.out
      have hpw : IntKind.i64.wrap ((p : Int) - 1) = (p' : Int) := (IntWalk.i64_in _ (by omega)).trans (by omega)
      have hq0 : (0 : Int) ≤ (p' : Int) := by omega
      have hq1 : (p' : Int) < (p : Int) := by omega
      clear hpp hp9
      have HR2 := Lib.hid (HR.out.below (HBB.out.trans (HB2.out.mono HBB.out.size)))
      obtain ⟨S, hS⟩ : ∃ S, selF (all.take k) now wd ms = S := ⟨_, rfl⟩
      have hSl : S.length ≤ 200 := by
        rw [← hS]
        have h1 := sel_len (all.take k) now wd ms
        have h2 := List.length_take_le k all
        have := HL2.out
        omega
      rw [hS] at HR2 HSE HR
      obtain ⟨m, hm⟩ : ∃ m, S.length = m := ⟨_, rfl⟩
      obtain ⟨P, hP1, hP2, hP3, hrow⟩ := HR2.out.1
      rw [hm] at hrow hSl
      obtain ⟨oo, oc, rfl, -, -, -⟩ := own_shape hrow
      have HRF := Lib.hid (fun Wx (hb : Below w2.heap.size w2 Wx) => rowof_any (.slice ta tl tc) L ZV Wx (((HT2.out.below lbR_mono HBB.out).below lbR_mono HB2.out).below lbR_mono hb) HLQ.out.1 (((HT.out.below HBL.out).below (HBB.out.trans (HB2.out.mono HBB.out.size))).below hb))
      have HPP := Lib.hid (And.intro hP1 (And.intro hP2 hP3))
      have HROW := Lib.hid hrow
      have HBE := Lib.hid HR2.out.2
      have HD0 := Lib.hid (Below.refl w2.heap.size w2).drew
      have HMM := Lib.hid hm
      have h47 : (m + 1) * 48 ≤ 140737488355328 := by omega
      have h63 : m + 1 ≤ 9223372036854775807 := by omega
      have hsb2 : w2.heap[wr.heap.size]? = some (.cells #[.slice ta tl tc, .slice uo ul uc] 88 (0, 0)) := (HB2.out.block _ (by rw [HSB.out]; omega)).trans HKB.out.1
      obtain ⟨curv, hvgb⟩ : ∃ cur, w2.heap[vg]? = some (.cells cur 101 (0, 0)) := by
        rcases HO2.out.1.2 with ⟨e1, -⟩ | ⟨g, cap, cur, e1, -, hg, -⟩
        · simp at e1
        · simp at e1
          obtain ⟨rfl, -⟩ := e1
          exact ⟨_, hg⟩
      have HS : Hid (∀ W', Below w2.heap.size w2 W' → W'.cell? ⟨wr.heap.size, 0, none⟩ = some (.slice ta tl tc) ∧ W'.cell? ⟨vg, p' * 2 + 1, none⟩ = some (.int .i64 ZV)) := Lib.hid (fun W' hb => ⟨(hb.cell (p := ⟨wr.heap.size, 0, none⟩) (cell_lt f0)).trans f0, (hb.cell (p := ⟨vg, p' * 2 + 1, none⟩) (cell_lt f1)).trans f1⟩)
      have HS4 : Hid (∀ W3 W4, Below w2.heap.size w2 W3 → W3.ownsRow W.heap.size 98 3 (.slice oo m oc) m (pc P) → W3.grownBy W4 (Value.slice oo m oc).ownBlock → W4.cell? ⟨wr.heap.size, 0, none⟩ = some (.slice ta tl tc) ∧ W4.cell? ⟨vg, p' * 2 + 1, none⟩ = some (.int .i64 ZV)) := Lib.hid (fun W3 W4 hb h3 hg => by
        have hc := HS.out W3 hb
        have k1 := own_block_ne h3 ((hb.block _ (Array.getElem?_eq_some_iff.1 hsb2).1).trans hsb2) (by decide)
        have k2 := own_block_ne h3 ((hb.block _ (Array.getElem?_eq_some_iff.1 hvgb).1).trans hvgb) (by decide)
        exact ⟨hg.cell hc.1 (fun e => k1 e.symm), hg.cell hc.2 (fun e => k2 e.symm)⟩)
      have q0 := HS.out _ HD0.out
      have HSL := Lib.hid hSl
      clear hS hSl hm hP1 hP2 hP3 hrow hz0 hZV HO2 HR2 HR HKB HRG HFI f0 f1 hsb2 hvgb
      go_region_held3 (fun W' => W'.cell? ⟨wr.heap.size, 0, none⟩ = some (.slice ta tl tc) ∧ W'.cell? ⟨vg, p' * 2 + 1, none⟩ = some (.int .i64 ZV)) (first | (with_reducible exact q3) | (with_reducible exact q1) | (with_reducible exact q0) | (with_reducible exact q2 _) | go_keep) (first
        | (refine step_app1 [.string (mkS (kyL L)), .slice o3 L.length k3, .int .i64 ZV] elRw rfl _ _ rfl hrow3 hbel3 (Nat.le_refl _) hsz3 rfl rfl rfl hone3 h47 h63 ?_; intro g cap w4 hown4 hbel4 hgr4; have q3 := HS4.out _ _ HB3.out hrow3 hgr4; have HZ4 := Lib.hid (And.intro hown4 (And.intro hbel4 hgr4)); clear hown4 hbel4 hgr4)
        | (go_at_call 81; refine (HRF.out _ HD0.out).mono ?_; rintro e w3 ⟨t3, rfl, ho3, hb3⟩; obtain ⟨o3, k3, rfl, -, -⟩ := ho3.shape; have hb13 : Below w2.heap.size w2 w3 := HD0.out.trans (hb3.mono HD0.out.size); have hrow3 := own_below HROW.out hb13; have hbel3 : Below W.heap.size W w3 := HBE.out.1.trans (hb13.mono HBE.out.2); have hsz3 : W.heap.size ≤ w3.heap.size := Nat.le_trans HBE.out.2 hb13.size
           have hone3 : ∀ u ∈ [Value.string (mkS (kyL L)), Value.slice o3 L.length k3, Value.int .i64 ZV], u.oneCell' = true := by (intro u hu; simp at hu; rcases hu with rfl | rfl | rfl <;> rfl)
           have q1 := HS.out _ hb13; have q2 := fun o => HS.out (w3.alloc o) (hb13.alloc hb13.size o); have HB3 := Lib.hid hb13; have HO3 := Lib.hid ho3; clear hb13 ho3 hb3))
      all_goals
        have HRF4 : Hid (RowsAt W.heap.size W (selF (all.take (k + 1)) now wd ms) (.slice (some ⟨g, 0, none⟩) (m + 1) cap) w4) := Lib.hid (by
          rw [HSE.out]
          obtain ⟨hown4, hbel4, hgr4⟩ := HZ4.out
          refine ⟨?_, hbel4, Nat.le_trans hsz3 hgr4.size⟩
          have h2 : ∀ q ∈ P, RwO W.heap.size w3 q.1 q.2 := fun q hq => rwO_mono _ _ _ _ _ (HPP.out.2.2 q hq) HB3.out
          have h3 : RwO W.heap.size w3 (L, ZV) [.string (mkS (kyL L)), .slice o3 L.length k3, .int .i64 ZV] := ⟨_, rfl, HO3.out.mono HBE.out.2⟩
          exact Ow.snoc (rw_grow _) HPP.out.1 HPP.out.2.1 h2 hrow3 HMM.out.symm hgr4 hown4 rfl h3)
        clear q0 q1 q2 q3 hrow3 hbel3 hsz3 hone3 HZ4
        go_wp2_with fail
        go_roundw
        case rel => exact ⟨k + 1, by omega, by go_num, HRF4⟩
        case measure => simp [intOf]; omega
end Go.Proofs.YtjmplhkdohlbcaaGreatDoor.Evl
/-
  Labels struck by their names: the walks of the closure in group, of slices.IndexFunc and slices.DeleteFunc at labels.
-/
namespace Go.Proofs.YtjmplhkdohlbcaaGreatDoor.Evl
open Go.RowKit Go.Gh Go.Gh.Clr Go.WideShapes Go.Proofs.YtjmplhkdohlbcaaGreatDoor.Lab Go.Proofs.YtjmplhkdohlbcaaGreatDoor.Exp
set_option linter.unusedVariables false
set_option linter.unusedSimpArgs false
/-- Is the label struck? -/
def offP (bs : List By) (x : Lb) : Bool := !decide (x.nm ∈ bs)
set_option maxRecDepth 100000 in
theorem offc_any {Wb W : World} {bx : Nat} {k0 k1 k2 um ub ux : Value} {bs : List By} (nm : By) (vl : ByteArray) (hx : Wb.heap[bx]? = some (.cells #[k0, k1, k2, um, ub, ux] 38 (0, 0))) (hb : Sp StrR 1 Wb ub bs) (hB : Below Wb.heap.size Wb W) :
    Calls Tryz.prog 109 #[.agg #[.string (mkS nm), .string vl], .pointer (some ⟨bx, 0, none⟩)] W fun e W' => e = .returned (.bool (!decide (nm ∈ bs))) ∧ Below W.heap.size W W' := by
  have hbx : bx < Wb.heap.size := (Array.getElem?_eq_some_iff.1 hx).1
  obtain ⟨wa, hwa⟩ : ∃ wa, wa = W.alloc (.cells #[.string (mkS nm), .string vl] 75) := ⟨_, rfl⟩
  have hba : Below W.heap.size W wa := by rw [hwa]; exact (Below.refl _ W).alloc (Nat.le_refl _) _
  have hbox : wa.heap[W.heap.size]? = some (.cells #[.string (mkS nm), .string vl] 75 (0, 0)) := by rw [hwa]; exact heap_alloc_new W _
  have hB2 : Below Wb.heap.size Wb wa := hB.trans (hba.mono hB.size)
  have hx2 := (hB2.block bx hbx).trans hx
  have HC := Lib.hid (containsT_any ub bs nm wa (hb.below strR_mono hB2))
  obtain ⟨D, hD⟩ : ∃ D, decide (nm ∈ bs) = D := ⟨_, rfl⟩
  rw [hD] at HC ⊢
  obtain ⟨⟨-, -, -, -, d4, -⟩, -⟩ := bx6 hx2
  obtain ⟨⟨e0, -⟩, -⟩ := bx2 hbox
  have HA := Lib.hid hwa
  have HBA := Lib.hid hba
  obtain ⟨sW, hsW⟩ : ∃ s, W.heap.size = s := ⟨_, rfl⟩
  obtain ⟨S, hS⟩ : ∃ S, mkS nm = S := ⟨_, rfl⟩
  rw [hS] at HA HC e0
  rw [hsW] at e0
  rw [hS]
  have HS := Lib.hid hsW
  clear hx hb hB hwa hba hbox hB2 hx2 hD hsW hS
  go_enter Tryz.func109, Tryz.ntmps109
  go_upto_region 1 with (fail)
  rw [← HA.out, HS.out]
  go_wp2_with (go_at_call 56; refine HC.out.mono ?_; rintro e w2 ⟨rfl, rfl⟩)
  go_ret
  exact ⟨rfl, HBA.out⟩
/-- The closure as a value. -/
def offV (bx : Nat) : Value := .func (.func 109) #[] #[.pointer (some ⟨bx, 0, none⟩)]
/-- What IndexFunc answers. -/
def IdLP (p : Lb → Bool) (l : List Lb) (W : World) (e : Ending) (W' : World) : Prop := ∃ k : Int, e = .returned (.int .i64 k) ∧ IdG p l k ∧ Below W.heap.size W W'
set_option maxHeartbeats 4000000 in
set_option maxRecDepth 100000 in
theorem idxl_any {Wb W0 : World} {bx : Nat} {k0 k1 k2 um ub ux : Value} {bs : List By} {v : Value} {l : List Lb} (hx : Wb.heap[bx]? = some (.cells #[k0, k1, k2, um, ub, ux] 38 (0, 0))) (hb : Sp StrR 1 Wb ub bs) (hB : Below Wb.heap.size Wb W0)
    (hs : Sp LbR 2 W0 v l) : Calls Tryz.prog 135 #[v, offV bx] W0 (IdLP (offP bs) l W0) := by
  obtain ⟨n, hn⟩ : ∃ n, l.length = n := ⟨_, rfl⟩
  obtain ⟨ao, c, rfl, hnc, hc⟩ := hs.shapeN hn
  have HS := Lib.hid hs
  have HN := Lib.hid hn
  have HP : Hid (∀ W x, Below Wb.heap.size Wb W → Calls Tryz.prog 109 #[.agg #[.string (mkS x.nm), .string (mkS x.vl)], .pointer (some ⟨bx, 0, none⟩)] W fun e W' => e = .returned (.bool (offP bs x)) ∧ Below W.heap.size W W') := Lib.hid (fun W x h => offc_any x.nm (mkS x.vl) hx hb h)
  have HB := Lib.hid hB
  clear hs hn hx hb hB
  unfold offV
  go_enter Tryz.func135, Tryz.ntmps135
  go_wp2_with fail
  go_loopw [5, 8] (fun _ i wr => ∃ k : Nat, k ≤ n ∧ i = .int .i64 k ∧ Hid (∀ y ∈ l.take k, offP bs y = false) ∧ Hid (Below W0.heap.size W0 wr)) (fun _ i _ => n - (intOf i).toNat)
  case atStart => exact ⟨0, Nat.zero_le _, rfl, Lib.hid (fun y hy => by simp at hy), Lib.hid (Below.refl _ _)⟩
  case round =>
    obtain ⟨k, hk, rfl, HT, HBR⟩ := hrel
    by_cases hlt : k < n
    case neg =>
      obtain rfl : k = n := by omega
      have HE : Hid (IdLP (offP bs) l W0 (.returned (.int .i64 (-1))) wr) := Lib.hid ⟨-1, rfl, Or.inl ⟨rfl, fun z hz => HT.out z (by rw [List.take_of_length_le (by rw [HN.out]; exact Nat.le_refl _)]; exact hz)⟩, HBR.out⟩
      go_wp2_with fail
      go_ret
      exact HE.out
    obtain ⟨x, hx⟩ : ∃ x, l[k]? = some x := ⟨_, List.getElem?_eq_getElem (by rw [HN.out]; exact hlt)⟩
    obtain ⟨b, off, cs, rfl, ⟨rfl, -⟩, -, hck⟩ := (HS.out.below lbR_mono HBR.out).get hx
    have x0 := hck 0 _ rfl
    have x1 := hck 1 _ rfl
    rw [Nat.add_zero] at x0
    have HX := Lib.hid hx
    have HPK := Lib.hid (HP.out wr x (HB.out.trans (HBR.out.mono HB.out.size)))
    have hk0 : (0 : Int) ≤ (k : Int) := by omega
    have hk1 : (k : Int) < (n : Int) := by omega
    obtain ⟨D, hD⟩ : ∃ D, offP bs x = D := ⟨_, rfl⟩
    rw [hD] at HPK
    have HD := Lib.hid hD
    clear hx hD hck
    go_wp2_with fail
    refine HPK.out.mono ?_
    rintro e w2 ⟨rfl, hb2⟩
    have HB2 := Lib.hid (HBR.out.trans (hb2.mono HBR.out.size))
    clear x0 x1 hb2
    cases D with
    | true =>
      have HE : Hid (IdLP (offP bs) l W0 (.returned (.int .i64 (k : Int))) w2) := Lib.hid ⟨k, rfl, Or.inr ⟨k, x, rfl, HX.out, HD.out, HT.out⟩, HB2.out⟩
      go_wp2_with fail
      go_ret
      exact HE.out
    | false =>
      have HT2 : Hid (∀ y ∈ l.take (k + 1), offP bs y = false) := Lib.hid (idG_step HX.out HD.out HT.out)
      go_wp2_with fail
      go_roundw
      case rel => exact ⟨k + 1, by omega, by go_num, HT2, HB2⟩
      case measure => simp [intOf]; omega
theorem zcL_one (m : Nat) : ∀ u ∈ (Builtin.zeroCells (Value.agg #[.string ByteArray.empty, .string ByteArray.empty]).cells m).toList, u.oneCell' = true := by
  intro u hu
  unfold Builtin.zeroCells at hu
  simp [Value.cells] at hu
  obtain ⟨i, -, rfl⟩ := hu
  rcases Nat.mod_two_eq_zero_or_one i with h | h <;> rw [h] <;> rfl
theorem lb_over {w : World} {B n g cap i : Nat} {T : TypeId} {R : List Lb} {x : Lb} {c : List Value} (h : Ow LbR 2 T B w (.slice (some ⟨g, 0, none⟩) n cap) R) (hn : R.length = n) (hi : i < R.length) (hx : LbR w x c) : Ow LbR 2 T B (setCells w g (i * 2) c) (.slice (some ⟨g, 0, none⟩) n cap) (R.set i x) := by
  obtain ⟨P, h1, h2, h3, h4⟩ := h
  have hpl : P.length = R.length := by rw [← h1, List.length_map]
  have hcl : c.length = 2 := by rw [hx.1]; rfl
  rw [hn] at h4
  refine ⟨P.set i (x, c), by rw [map_set, h1], h2.set hcl i, all_set (Q := fun p => LbR (setCells w g (i * 2) c) p.1 p.2) (fun p hp => h3 p hp) hx i, ?_⟩
  rw [List.length_set, hn]
  exact own_over h4 h2 (by omega) hcl
theorem lb_el {w : World} {B n g cap i : Nat} {T : TypeId} {R : List Lb} {x : Lb} (h : Ow LbR 2 T B w (.slice (some ⟨g, 0, none⟩) n cap) R) (hn : R.length = n) (hx : R[i]? = some x) : w.cell? ⟨g, i * 2, none⟩ = some (.string (mkS x.nm)) ∧ w.cell? ⟨g, i * 2 + 1, none⟩ = some (.string (mkS x.vl)) ∧ LbR w x [.string (mkS x.nm), .string (mkS x.vl)] ∧ (∀ j, w.frozen? ⟨g, i * 2 + j, none⟩ = false) := by
  obtain ⟨P, h1, h2, h3, h4⟩ := h
  rw [hn] at h4
  have hi := (List.getElem?_eq_some_iff.1 hx).1
  obtain ⟨cs, hp⟩ := pair_at h1 hx
  have hr := h3 _ (List.mem_of_getElem? hp)
  have hr0 := hr.1
  simp only at hr0
  subst hr0
  obtain ⟨q1, q2⟩ := own_el h4 h2 hp (by omega)
  have c0 := q1 0 _ rfl
  rw [Nat.add_zero] at c0
  exact ⟨c0, q1 1 _ rfl, hr, q2⟩
/-- What DeleteFunc answers. -/
def DlLP (B : Nat) (Wb : World) (r : List Lb) (e : Ending) (W' : World) : Prop := ∃ v', e = .returned v' ∧ Ow LbR 2 75 B W' v' r ∧ Below B Wb W'
set_option maxHeartbeats 8000000 in
set_option maxRecDepth 100000 in
theorem dell_any {Wb W0 : World} {bx : Nat} {k0 k1 k2 um ub ux : Value} {bs : List By} {v : Value} {l : List Lb} (hx : Wb.heap[bx]? = some (.cells #[k0, k1, k2, um, ub, ux] 38 (0, 0))) (hb : Sp StrR 1 Wb ub bs) (hB : Below Wb.heap.size Wb W0)
    (hs : Ow LbR 2 75 Wb.heap.size W0 v l) (h9 : l.length ≤ 1000) : Calls Tryz.prog 107 #[v, offV bx] W0 (DlLP Wb.heap.size Wb (l.filter fun x => !offP bs x)) := by
  obtain ⟨n, hn⟩ : ∃ n, l.length = n := ⟨_, rfl⟩
  have HIDX := Lib.hid (idxl_any hx hb hB hs.sp)
  obtain ⟨ao, c, rfl, hnc, hc2⟩ := hs.sp.shapeN hn
  rw [hn] at h9
  have HS := Lib.hid hs
  have HN := Lib.hid hn
  have HP : Hid (∀ W x, Below Wb.heap.size Wb W → Calls Tryz.prog 109 #[.agg #[.string (mkS x.nm), .string (mkS x.vl)], .pointer (some ⟨bx, 0, none⟩)] W fun e W' => e = .returned (.bool (offP bs x)) ∧ Below W.heap.size W W') := Lib.hid (fun W x h => offc_any x.nm (mkS x.vl) hx hb h)
  have HB := Lib.hid hB
  clear hs hn hx hb hB
  unfold offV at HIDX ⊢
  go_enter Tryz.func107, Tryz.ntmps107
  go_wp2_with fail
  refine HIDX.out.mono ?_
  rintro e w1 ⟨k, rfl, hk, hb1⟩
  have HB1 := Lib.hid (HB.out.trans (hb1.mono HB.out.size))
  have HS1 := Lib.hid (HS.out.below lbR_mono hb1)
  clear hb1
  rcases hk with ⟨rfl, hall⟩ | ⟨j, x, rfl, hx, hp, hb⟩
  · have HE : Hid (DlLP Wb.heap.size Wb (l.filter fun x => !offP bs x) (.returned (.slice ao n c)) w1) := Lib.hid ⟨_, rfl, by
      rw [List.filter_eq_self.2 (fun y hy => by rw [hall y hy]; rfl)]
      exact HS1.out, HB1.out⟩
    clear hall
    go_wp2_with fail
    go_ret
    exact HE.out
  have hj : j < n := by rw [← HN.out]; exact (List.getElem?_eq_some_iff.1 hx).1
  obtain ⟨g, rfl⟩ : ∃ g, ao = some ⟨g, 0, none⟩ := by
    obtain ⟨P, h1, h2, h3, h4⟩ := HS1.out
    rw [HN.out] at h4
    exact Lab.own_some h4 (by omega)
  have HD0 : Hid (DeG (offP bs) l l j (j + 1)) := Lib.hid (DeG.start hx hp hb)
  have t1 : ((j : Int) == -1) = false := by rw [beq_eq_false_iff_ne]; omega
  clear hx hp hb
  go_wp2_with fail
  go_loopw [5, 6, 7] (fun a b _ wr => ∃ (kk q : Nat) (R : List Lb), q ≤ n ∧ kk < q ∧ a = .int .i64 kk ∧ b = .int .i64 (q : Int) ∧ Hid (DeG (offP bs) l R kk q) ∧ Hid (Ow LbR 2 75 Wb.heap.size wr (.slice (some ⟨g, 0, none⟩) n c) R) ∧ Hid (Below Wb.heap.size Wb wr)) (fun _ b _ _ => n - (intOf b).toNat)
  case atStart => exact ⟨j, j + 1, l, by omega, by omega, rfl, by go_num, HD0, HS1, HB1⟩
  case round =>
    obtain ⟨kk, q, R, hq, hkq, rfl, rfl, HD, HOR, HBR⟩ := hrel
    have hRn : R.length = n := HD.out.len.trans HN.out
    by_cases hlt : q < n
    case neg =>
      obtain rfl : q = n := by omega
      obtain ⟨r, hr⟩ : ∃ r, q - kk = r + 1 := ⟨q - kk - 1, by omega⟩
      obtain ⟨zs, hzs⟩ : ∃ zs, (Builtin.zeroCells (Value.agg #[.string ByteArray.empty, .string ByteArray.empty]).cells (r + 1)).toList = zs := ⟨_, rfl⟩
      have hz1 : ∀ u ∈ zs, u.oneCell' = true := by rw [← hzs]; exact zcL_one _
      have hzl : zs.length = (r + 1) * 2 := by rw [← hzs, Array.length_toList, size_zeroCells]; rfl
      obtain ⟨P, h1, h2, h3, h4⟩ := HOR.out
      rw [hRn] at h4
      have hcl := fun ty c => clear_own (P := Tryz.prog) (ty := ty) (c := c) (m := r) (i := kk) (zs := zs) Tryz.underlying22 Tryz.zeroValue75 hzs h4 hzl (by omega) hz1
      have hfin := own_shorter (hcl 0 0).2 (m := kk) (by omega)
      rw [Clr.setFrom_take _ _ _ _ (Nat.le_refl _), pc_take h2] at hfin
      have hfq : DeG (offP bs) l R kk l.length := by rw [HN.out]; exact HD.out
      obtain ⟨hf1, hf2⟩ := hfq.fin
      have hcl2 := fun ty c => (hcl ty c).1
      obtain ⟨W2, hW2⟩ : ∃ W2, W2 = setCells wr g (kk * 2) zs := ⟨_, rfl⟩
      have hgB : Wb.heap.size ≤ g := (h4.lt g rfl).1
      have hbf : Below Wb.heap.size Wb W2 := by rw [hW2]; exact below_stores hgB zs _ _ HBR.out
      rw [← hW2] at hcl2 hfin
      have HE : Hid (DlLP Wb.heap.size Wb (l.filter fun x => !offP bs x) (.returned (.slice (some ⟨g, 0, none⟩) kk c)) W2) := Lib.hid ⟨_, rfl, ⟨P.take kk, by rw [take_pairs h1, hf1], h2.take kk, fun p hp => h3 p (List.mem_of_mem_take hp), by rw [hf2]; exact hfin⟩, hbf⟩
      have hcp2 : (c = kk) = False := eq_false (by omega)
      have hkc2 : kk ≤ c := by omega
      have hkn2 : (kk : Int) ≤ (q : Int) := by omega
      have hk02 : (0 : Int) ≤ (kk : Int) := by omega
      clear hcl hfin hW2 hzs hz1 hzl h1 h2 h3 h4 hf1 hf2 hfq hbf
      go_wp2_with fail
      go_ret
      exact HE.out
    obtain ⟨x, hx⟩ : ∃ x, l[q]? = some x := ⟨_, List.getElem?_eq_getElem (by rw [HN.out]; exact hlt)⟩
    obtain ⟨x0, x1, hlx, -⟩ := lb_el (i := q) HOR.out hRn ((HD.out.rest q (Nat.le_refl _)).trans hx)
    have HX := Lib.hid hx
    obtain ⟨wa, hwa⟩ : ∃ wa, wa = wr.alloc (.cells #[.string (mkS x.nm), .string (mkS x.vl)] 75) := ⟨_, rfl⟩
    have hba : Below wr.heap.size wr wa := by rw [hwa]; exact (Below.refl _ wr).alloc (Nat.le_refl _) _
    have hboxa : wa.heap[wr.heap.size]? = some (.cells #[.string (mkS x.nm), .string (mkS x.vl)] 75 (0, 0)) := by rw [hwa]; exact heap_alloc_new wr _
    have hBa : Below Wb.heap.size Wb wa := HBR.out.trans (hba.mono HBR.out.size)
    have HOA := Lib.hid (HOR.out.below lbR_mono hba)
    have HPK := Lib.hid (HP.out wa x hBa)
    have HBA := Lib.hid hBa
    have hq0 : (0 : Int) ≤ (q : Int) := by omega
    have hq1 : (q : Int) < (n : Int) := by omega
    have hk0 : (0 : Int) ≤ (kk : Int) := by omega
    have hk1 : (kk : Int) < (n : Int) := by omega
    obtain ⟨D, hD⟩ : ∃ D, offP bs x = D := ⟨_, rfl⟩
    rw [hD] at HPK
    have HDD := Lib.hid hD
    have HWA := Lib.hid hwa
    have HBX := Lib.hid hboxa
    have hna : wr.heap.size < wa.heap.size := (Array.getElem?_eq_some_iff.1 hboxa).1
    obtain ⟨S0, hS0⟩ : ∃ S, mkS x.nm = S := ⟨_, rfl⟩
    obtain ⟨S1, hS1⟩ : ∃ S, mkS x.vl = S := ⟨_, rfl⟩
    rw [hS0] at x0
    rw [hS1] at x1
    rw [hS0, hS1] at HWA HPK HBX hlx
    have HLX := Lib.hid hlx
    obtain ⟨⟨e0, e1⟩, -⟩ := bx2 HBX.out
    clear hx hD hwa hboxa hBa hba hlx hS0 hS1
    go_upto_region 8 with (fail)
    rw [← HWA.out]
    obtain ⟨by1, hby1⟩ : ∃ b, wr.heap.size = b := ⟨_, rfl⟩
    rw [hby1] at e0 e1 HBX hna
    rw [hby1]
    clear x0 x1 hby1
    go_wp2_with fail
    refine HPK.out.mono ?_
    rintro e w2 ⟨rfl, hb2⟩
    have HOR2 := Lib.hid (HOA.out.below lbR_mono hb2)
    have HBR2 := Lib.hid (HBA.out.trans (hb2.mono HBA.out.size))
    obtain ⟨⟨g0, g1⟩, -⟩ := bx2 ((hb2.block by1 hna).trans HBX.out)
    clear e0 e1 hb2
    cases D with
    | true =>
      have HD2 := Lib.hid (HD.out.struck HX.out HDD.out)
      go_wp2_with fail
      go_roundw
      case rel => exact ⟨kk, q + 1, R, by omega, by omega, rfl, by go_num, HD2, HOR2, HBR2⟩
      case measure => simp [intOf]; omega
    | false =>
      have HD2 := Lib.hid (HD.out.stays HX.out HDD.out)
      obtain ⟨y, hy⟩ : ∃ y, R[kk]? = some y := ⟨_, List.getElem?_eq_getElem (by omega)⟩
      obtain ⟨y0, y1, -, yf⟩ := lb_el (i := kk) HOR2.out hRn hy
      have yf0 := yf 0
      have yf1 := yf 1
      rw [Nat.add_zero] at yf0
      have hst := lb_over HOR2.out hRn (i := kk) (by omega) (show LbR w2 x _ from HLX.out)
      have hgB : Wb.heap.size ≤ g := by
        obtain ⟨P, -, -, -, h4⟩ := HOR2.out
        exact (h4.lt g rfl).1
      have HOR3 := Lib.hid hst
      have HBR3 : Hid (Below Wb.heap.size Wb (setCells w2 g (kk * 2) [.string S0, .string S1])) := Lib.hid (below_stores hgB _ _ _ HBR2.out)
      clear hy hst yf
      go_wp2_with fail
      go_roundw
      case rel => exact ⟨kk + 1, q + 1, R.set kk x, by omega, by omega, by go_num, by go_num, HD2, HOR3, HBR3⟩
      case measure => simp [intOf]; omega
end Go.Proofs.YtjmplhkdohlbcaaGreatDoor.Evl
/-
  A row found by its text: the walks of the second closure in group and of slices.IndexFunc at rows.
-/
namespace Go.Proofs.YtjmplhkdohlbcaaGreatDoor.Evl
open Go.RowKit Go.Gh Go.Gh.Clr Go.WideShapes Go.Proofs.YtjmplhkdohlbcaaGreatDoor.Lab Go.Proofs.YtjmplhkdohlbcaaGreatDoor.Exp
set_option linter.unusedVariables false
set_option linter.unusedSimpArgs false
set_option maxRecDepth 100000 in
theorem keyc_any {W : World} {bz : Nat} {S : By} {u1 u2 : Value} (a : By) (v1 v2 : Value) (hz : W.heap[bz]? = some (.cells #[.string (mkS S), u1, u2] 98 (0, 0))) :
    Calls Tryz.prog 111 #[.agg #[.string (mkS a), v1, v2], .pointer (some ⟨bz, 0, none⟩)] W fun e W' => e = .returned (.bool (decide (a = S))) ∧ Below W.heap.size W W' := by
  have hbz : bz < W.heap.size := (Array.getElem?_eq_some_iff.1 hz).1
  obtain ⟨wa, hwa⟩ : ∃ wa, wa = W.alloc (.cells #[.string (mkS a), v1, v2] 98) := ⟨_, rfl⟩
  have hba : Below W.heap.size W wa := by rw [hwa]; exact (Below.refl _ W).alloc (Nat.le_refl _) _
  have hbox : wa.heap[W.heap.size]? = some (.cells #[.string (mkS a), v1, v2] 98 (0, 0)) := by rw [hwa]; exact heap_alloc_new W _
  have hx2 := (hba.block bz hbz).trans hz
  obtain ⟨D, hD⟩ : ∃ D, decide (a = S) = D := ⟨_, rfl⟩
  have t1 : ((mkS a).toList == (mkS S).toList) = D := by
    rw [mkS_list, mkS_list, ← hD]
    by_cases h : a = S
    · rw [h]; simp
    · rw [decide_eq_false h]; exact beq_eq_false_iff_ne.2 h
  rw [hD]
  obtain ⟨⟨d0, -, -⟩, -⟩ := bx3 hx2
  obtain ⟨⟨e0, -, -⟩, -⟩ := bx3 hbox
  have HA := Lib.hid hwa
  have HBA := Lib.hid hba
  obtain ⟨sW, hsW⟩ : ∃ s, W.heap.size = s := ⟨_, rfl⟩
  obtain ⟨T1, hT1⟩ : ∃ T, mkS a = T := ⟨_, rfl⟩
  obtain ⟨T2, hT2⟩ : ∃ T, mkS S = T := ⟨_, rfl⟩
  rw [hT1, hT2] at t1
  rw [hT1] at e0 HA
  rw [hT2] at d0
  rw [hT1]
  rw [hsW] at e0
  have HS := Lib.hid hsW
  clear hz hwa hba hbox hx2 hD hsW hT1 hT2
  go_enter Tryz.func111, Tryz.ntmps111
  go_upto_region 1 with (fail)
  rw [← HA.out, HS.out]
  go_wp2_with fail
  go_ret
  exact ⟨rfl, HBA.out⟩
/-- The closure as a value. -/
def keyV (bz : Nat) : Value := .func (.func 111) #[] #[.pointer (some ⟨bz, 0, none⟩)]
def atK (S : By) (r : Rw) : Bool := decide (kyL r.1 = S)
/-- What IndexFunc answers. -/
def IdRP (p : Rw → Bool) (l : List Rw) (W : World) (e : Ending) (W' : World) : Prop := ∃ k : Int, e = .returned (.int .i64 k) ∧ IdG p l k ∧ Below W.heap.size W W'
set_option maxHeartbeats 4000000 in
set_option maxRecDepth 100000 in
theorem idxr_any {W0 : World} {bz B : Nat} {S : By} {u1 u2 : Value} {v : Value} {l : List Rw} (hz : W0.heap[bz]? = some (.cells #[.string (mkS S), u1, u2] 98 (0, 0))) (hs : Sp (RwO B) 3 W0 v l) :
    Calls Tryz.prog 110 #[v, keyV bz] W0 (IdRP (atK S) l W0) := by
  obtain ⟨n, hn⟩ : ∃ n, l.length = n := ⟨_, rfl⟩
  obtain ⟨ao, c, rfl, hnc, hc⟩ := hs.shapeN hn
  have HS := Lib.hid hs
  have HN := Lib.hid hn
  have hbz : bz < W0.heap.size := (Array.getElem?_eq_some_iff.1 hz).1
  have HP : Hid (∀ W (x : Rw) v1 v2, Below W0.heap.size W0 W → Calls Tryz.prog 111 #[.agg #[.string (mkS (kyL x.1)), v1, v2], .pointer (some ⟨bz, 0, none⟩)] W fun e W' => e = .returned (.bool (atK S x)) ∧ Below W.heap.size W W') := Lib.hid (fun W x v1 v2 h => keyc_any (kyL x.1) v1 v2 ((h.block bz hbz).trans hz))
  clear hs hn hz hbz
  unfold keyV
  go_enter Tryz.func110, Tryz.ntmps110
  go_wp2_with fail
  go_loopw [5, 8] (fun _ i wr => ∃ k : Nat, k ≤ n ∧ i = .int .i64 k ∧ Hid (∀ y ∈ l.take k, atK S y = false) ∧ Hid (Below W0.heap.size W0 wr)) (fun _ i _ => n - (intOf i).toNat)
  case atStart => exact ⟨0, Nat.zero_le _, rfl, Lib.hid (fun y hy => by simp at hy), Lib.hid (Below.refl _ _)⟩
  case round =>
    obtain ⟨k, hk, rfl, HT, HBR⟩ := hrel
    by_cases hlt : k < n
    case neg =>
      obtain rfl : k = n := by omega
      have HE : Hid (IdRP (atK S) l W0 (.returned (.int .i64 (-1))) wr) := Lib.hid ⟨-1, rfl, Or.inl ⟨rfl, fun z hz => HT.out z (by rw [List.take_of_length_le (by rw [HN.out]; exact Nat.le_refl _)]; exact hz)⟩, HBR.out⟩
      go_wp2_with fail
      go_ret
      exact HE.out
    obtain ⟨x, hx⟩ : ∃ x, l[k]? = some x := ⟨_, List.getElem?_eq_getElem (by rw [HN.out]; exact hlt)⟩
    obtain ⟨b, off, cs, rfl, ⟨t, rfl, ht⟩, -, hck⟩ := (HS.out.below (rwO_mono B) HBR.out).get hx
    obtain ⟨ta, tc, rfl, -, -⟩ := ht.shape
    obtain ⟨tl, htl⟩ : ∃ n, x.1.length = n := ⟨_, rfl⟩
    rw [htl] at hck
    have x0 := hck 0 _ rfl
    have x1 := hck 1 _ rfl
    have x2 := hck 2 _ rfl
    rw [Nat.add_zero] at x0
    have HX := Lib.hid hx
    have HPK := Lib.hid (HP.out wr x (.slice ta tl tc) (.int .i64 x.2) HBR.out)
    have hk0 : (0 : Int) ≤ (k : Int) := by omega
    have hk1 : (k : Int) < (n : Int) := by omega
    obtain ⟨D, hD⟩ : ∃ D, atK S x = D := ⟨_, rfl⟩
    rw [hD] at HPK
    have HD := Lib.hid hD
    clear hx hD hck ht htl
    go_wp2_with fail
    refine HPK.out.mono ?_
    rintro e w2 ⟨rfl, hb2⟩
    have HB2 := Lib.hid (HBR.out.trans (hb2.mono HBR.out.size))
    clear x0 x1 x2 hb2
    cases D with
    | true =>
      have HE : Hid (IdRP (atK S) l W0 (.returned (.int .i64 (k : Int))) w2) := Lib.hid ⟨k, rfl, Or.inr ⟨k, x, rfl, HX.out, HD.out, HT.out⟩, HB2.out⟩
      go_wp2_with fail
      go_ret
      exact HE.out
    | false =>
      have HT2 : Hid (∀ y ∈ l.take (k + 1), atK S y = false) := Lib.hid (idG_step HX.out HD.out HT.out)
      go_wp2_with fail
      go_roundw
      case rel => exact ⟨k + 1, by omega, by go_num, HT2, HB2⟩
      case measure => simp [intOf]; omega
end Go.Proofs.YtjmplhkdohlbcaaGreatDoor.Evl
