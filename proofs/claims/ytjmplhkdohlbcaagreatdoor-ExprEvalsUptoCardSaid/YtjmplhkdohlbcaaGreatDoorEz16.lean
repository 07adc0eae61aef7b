/-
  The walk of Eval.
-/
import Derived.Test.YtjmplhkdohlbcaaGreatDoorEz4
import Derived.Test.YtjmplhkdohlbcaaGreatDoorEz9
import Derived.Test.YtjmplhkdohlbcaaGreatDoorEz13
import Derived.Test.YtjmplhkdohlbcaaGreatDoorEz14
import Derived.Test.YtjmplhkdohlbcaaGreatDoorEz15
import Derived.Deep.RegionHeld3
import Derived.Deep.CutBlock
namespace Go.Proofs.YtjmplhkdohlbcaaGreatDoor.Evl
open Go.RowKit Go.Gh Go.Gh.Clr Go.WideShapes Go.Proofs.YtjmplhkdohlbcaaGreatDoor.Lab Go.Proofs.YtjmplhkdohlbcaaGreatDoor.Exp
set_option linter.unusedVariables false
set_option linter.unusedSimpArgs false
/-- What Eval answers. -/
def EvP (all : List Srs) (now : Int) (x : Ex) (w : World) (e : Ending) (w' : World) : Prop :=
  Below w.heap.size w w' ∧ ((evlF all now x ≠ 0 ∧ e = .returned (.tuple #[.slice none 0 0, .int .i64 (evlF all now x)])) ∨ (evlF all now x = 0 ∧ ∃ v, e = .returned (.tuple #[v, .int .i64 0]) ∧ Sp RdR 2 w' v (evX all now x)))
set_option maxRecDepth 100000 in
theorem infoRd : (Tryz.prog.info? 96).map (fun i => (i.zero, i.size, i.bytes)) = some (some (.agg #[.slice none 0 0, .int .i64 0]), 2, 32) := by kernel_rfl
set_option maxRecDepth 100000 in
theorem elRd : Elem Tryz.prog 56 96 2 32 := elem_of Tryz.underlying56 infoRd rfl (by decide)
theorem infoSt : (Tryz.prog.info? 9).map (fun i => (i.zero, i.size, i.bytes)) = some (some (.string ByteArray.empty), 1, 16) := by kernel_rfl
theorem elSt : Elem Tryz.prog 35 9 1 16 := elem_of Tryz.underlying35 infoSt rfl (by decide)
theorem strR_grow (T : TypeId) (k B : Nat) : Grow StrR T k B := fun w w' a c u m us h _ _ => h
set_option maxHeartbeats 16000000 in
set_option maxRecDepth 100000 in
theorem evalT_any (all : List Srs) (now : Int) (x : Ex) (d : Nat) (u0 u1 u2 u3 u4 u5 v : Value) (w : World) (h : ExD d w x [u0, u1, u2, u3, u4, u5]) (hz : szX x ≤ 1048576) (hv : Sp SrR 2 w v all) (hT : STab w) (hM : MTab w) :
    Calls Tryz.prog 27 #[.agg #[u0, u1, u2, u3, u4, u5], v, .int .i64 now] w (EvP all now x w) := by
  obtain ⟨k0, k1, k2, am, lm, cm, ab, lb, cb, ax, lx, cx, hsh⟩ := exD_shape h
  simp only [List.cons.injEq, and_true] at hsh
  obtain ⟨rfl, rfl, rfl, rfl, rfl, rfl⟩ := hsh
  obtain ⟨n, hn⟩ : ∃ n, all.length = n := ⟨_, rfl⟩
  obtain ⟨ao, c, rfl, hnc, hc⟩ := hv.shapeN hn
  obtain ⟨wa, hwa, hbox, hba, hsa⟩ := box_ex w (.int .i64 k0) (.int .i64 k1) (.int .i64 k2) (.slice am lm cm) (.slice ab lb cb) (.slice ax lx cx)
  have HCK := Lib.hid (checkT_any d x _ _ _ _ _ _ wa (exD_mono d _ _ _ _ h hba) hz)
  have HEX := Lib.hid (fun W (hb : Below w.heap.size w W) => exD_mono d _ _ _ _ h hb)
  have HV := Lib.hid hv
  have HT := Lib.hid hT
  have HM := Lib.hid hM
  have HN := Lib.hid hn
  obtain ⟨F, hF⟩ : ∃ F, exF x = F := ⟨_, rfl⟩
  rw [hF] at HCK
  have HF := Lib.hid hF
  have HWA := Lib.hid hwa
  have HBA := Lib.hid hba
  obtain ⟨⟨d0, d1, d2, d3, d4, d5⟩, -⟩ := bx6 hbox
  obtain ⟨bx, hbx⟩ : ∃ bx, w.heap.size = bx := ⟨_, rfl⟩
  rw [hbx] at d0 d1 d2 d3 d4 d5 hbox
  have HBX := Lib.hid hbox
  have HBE := Lib.hid hbx
  have hbl : bx < wa.heap.size := (Array.getElem?_eq_some_iff.1 hbox).1
  clear h hz hwa hbox hba hsa hF hbx hv hT hM hn
  go_enter Tryz.func27, Tryz.ntmps27
  go_upto_region 1 with (fail)
  rw [HBE.out, ← HWA.out]
  go_wp2_with fail
  refine HCK.out.mono ?_
  rintro e w2 ⟨rfl, hb2⟩
  obtain ⟨⟨e0, e1, e2, e3, e4, e5⟩, -⟩ := bx6 ((hb2.block bx hbl).trans HBX.out)
  have HBX2 := Lib.hid ((hb2.block bx hbl).trans HBX.out)
  have HB2 := Lib.hid (HBA.out.trans (hb2.mono HBA.out.size))
  clear hb2 d0 d1 d2 d3 d4 d5
  by_cases hf : F = 0
  case neg =>
    have t1 : (F != 0) = true := by rw [bne_iff_ne]; exact hf
    have HE : Hid (EvP all now x w (.returned (.tuple #[.slice none 0 0, .int .i64 F])) w2) := Lib.hid (by
      have e : evlF all now x = F := by unfold evlF; rw [if_pos (by rw [HF.out]; exact hf), HF.out]
      exact ⟨HB2.out, Or.inl ⟨by rw [e]; exact hf, by rw [e]⟩⟩)
    clear hf
    go_wp2_with fail
    go_ret2
    exact HE.out
  subst hf
  by_cases hbig : 200 < n
  · have HE : Hid (EvP all now x w (.returned (.tuple #[.slice none 0 0, .int .i64 2])) w2) := Lib.hid (by
      have e : evlF all now x = 2 := by unfold evlF; rw [if_neg (by rw [HF.out]; decide), if_pos (by rw [HN.out]; exact hbig)]
      exact ⟨HB2.out, Or.inl ⟨by rw [e]; decide, by rw [e]⟩⟩)
    have t3 : (200 : Int) < (n : Int) := by omega
    go_wp2_with fail
    go_ret2
    exact HE.out
  have t3 : ¬ ((200 : Int) < (n : Int)) := by omega
  have hn200 : n ≤ 200 := by omega
  clear hbig
  go_wp2_with fail
  go_loopw [31] (fun i wr => ∃ k : Nat, k ≤ n ∧ i = .int .i64 k ∧ Hid (∀ s ∈ all.take k, SOk s) ∧ Hid (Below w2.heap.size w2 wr)) (fun i _ => n - (intOf i).toNat)
  case atStart => exact ⟨0, Nat.zero_le _, rfl, Lib.hid (fun s hs => by simp at hs), Lib.hid (Below.refl _ _)⟩
  case round =>
  obtain ⟨k, hk, rfl, HOK, HBR⟩ := hrel
  have HBW : Hid (Below w.heap.size w wr) := Lib.hid (HB2.out.trans (HBR.out.mono HB2.out.size))
  by_cases hlt : k < n
  case pos =>
    obtain ⟨q, hq⟩ : ∃ s, all[k]? = some s := ⟨_, List.getElem?_eq_getElem (by rw [HN.out]; exact hlt)⟩
    obtain ⟨L, Q⟩ := q
    obtain ⟨b, off, cs, rfl, ⟨t, u, rfl, ht, hu, hr64, hul⟩, -, hcell⟩ := (HV.out.below srR_mono HBW.out).get hq
    obtain ⟨ta, tc, rfl, -, -⟩ := ht.shape
    obtain ⟨tl, htl⟩ : ∃ n, L.length = n := ⟨_, rfl⟩
    obtain ⟨uo, uc, rfl, -, -, -⟩ := hu.shape
    obtain ⟨ul, hull⟩ : ∃ n, Q.length = n := ⟨_, rfl⟩
    simp only at ht hu hr64 hul hcell
    rw [htl] at ht hcell
    rw [hull] at hu hcell hul
    have c0 := hcell 0 _ rfl
    have c1 := hcell 1 _ rfl
    rw [Nat.add_zero] at c0
    have HAT := Lib.hid (goS_at HOK.out hq)
    have HST : Hid (SOk (L, Q) → ∀ s ∈ all.take (k + 1), SOk s) := Lib.hid (fun h => ok_step HOK.out hq h)
    obtain ⟨wb, hwb⟩ : ∃ wb, wb = wr.alloc (.cells #[.slice ta tl tc, .slice uo ul uc] 88) := ⟨_, rfl⟩
    have hBB : Below wr.heap.size wr wb := by rw [hwb]; exact (Below.refl _ wr).alloc (Nat.le_refl _) _
    have hsb : wb.heap[wr.heap.size]? = some (.cells #[.slice ta tl tc, .slice uo ul uc] 88 (0, 0)) := by rw [hwb]; exact heap_alloc_new wr _
    have HLC := Lib.hid (lbcheck_any (.slice ta tl tc) L wb (ht.below lbR_mono hBB))
    have HCC := Lib.hid (fun W (hb : Below wb.heap.size wb W) => Smp.check_any (.slice uo ul uc) ul Q W ((hu.below hBB).below hb) hull hr64 hul)
    obtain ⟨FL, hFL⟩ : ∃ F, labelF L = F := ⟨_, rfl⟩
    obtain ⟨FS, hFS⟩ : ∃ F, Smp.sampF Q = F := ⟨_, rfl⟩
    simp only at HAT
    rw [hFL] at HLC
    rw [hFS] at HCC
    rw [hFL, hFS] at HAT
    have HFLS := Lib.hid (And.intro hFL hFS)
    have HBZ := Lib.hid (HBW.out.trans (hBB.mono HBW.out.size))
    have HBY := Lib.hid (HBR.out.trans (hBB.mono HBR.out.size))
    have HSB := Lib.hid hsb
    have hk0 : (0 : Int) ≤ (k : Int) := by omega
    have hk1 : (k : Int) < (n : Int) := by omega
    obtain ⟨⟨s0, s1⟩, -⟩ := bx2 hsb
    have hyl := (Array.getElem?_eq_some_iff.1 hsb).1
    clear hq ht hu hr64 hul hcell htl hull hFL hFS hsb
    go_upto_region 9 with (fail)
    rw [← hwb]
    clear hwb hBB c0 c1
    generalize hby : wr.heap.size = yb at *
    go_wp2_with fail
    refine HLC.out.mono ?_
    rintro e w3 ⟨rfl, hb3⟩
    have HB3 := Lib.hid (HBZ.out.trans (hb3.mono HBZ.out.size))
    have HY3 := Lib.hid (HBY.out.trans (hb3.mono HBY.out.size))
    obtain ⟨⟨g0, g1⟩, -⟩ := bx2 ((hb3.block yb hyl).trans HSB.out)
    have HCC3 := Lib.hid (HCC.out w3 hb3)
    clear hb3 s0 s1
    by_cases hfl : FL = 0
    case neg =>
      have t4 : (FL != 0) = true := by rw [bne_iff_ne]; exact hfl
      have HE : Hid (EvP all now x w (.returned (.tuple #[.slice none 0 0, .int .i64 FL])) w3) := Lib.hid (by
        have e1 : goS all = FL := by rw [HAT.out, if_pos hfl]
        have e : evlF all now x = FL := by unfold evlF; rw [if_neg (by rw [HF.out]; decide), if_neg (by rw [HN.out]; omega), if_pos (by rw [e1]; exact hfl), e1]
        exact ⟨HB3.out, Or.inl ⟨by rw [e]; exact hfl, by rw [e]⟩⟩)
      clear hfl
      go_wp2_with fail
      go_ret2
      exact HE.out
    subst hfl
    go_wp2_with fail
    refine HCC3.out.mono ?_
    rintro e w4 ⟨rfl, hb4⟩
    have HB4 := Lib.hid (HB3.out.trans (hb4.mono HB3.out.size))
    have HY4 := Lib.hid (HY3.out.trans (hb4.mono HY3.out.size))
    clear hb4
    by_cases hfs : FS = 0
    case neg =>
      have t4 : (FS != 0) = true := by rw [bne_iff_ne]; exact hfs
      have HE : Hid (EvP all now x w (.returned (.tuple #[.slice none 0 0, .int .i64 FS])) w4) := Lib.hid (by
        have e1 : goS all = FS := by rw [HAT.out, if_neg (by decide), if_pos hfs]
        have e : evlF all now x = FS := by unfold evlF; rw [if_neg (by rw [HF.out]; decide), if_neg (by rw [HN.out]; omega), if_pos (by rw [e1]; exact hfs), e1]
        exact ⟨HB4.out, Or.inl ⟨by rw [e]; exact hfs, by rw [e]⟩⟩)
      clear hfs
      go_wp2_with fail
      go_ret2
      exact HE.out
    subst hfs
    have HS2 : Hid (∀ s ∈ all.take (k + 1), SOk s) := Lib.hid (HST.out ⟨HFLS.out.1, HFLS.out.2⟩)
    go_wp2_with fail
    go_roundw
    case rel => exact ⟨k + 1, by omega, by go_num, HS2, HY4⟩
    case measure => simp [intOf]; omega
  obtain rfl : k = n := by omega
  have HGO : Hid (goS all = 0) := Lib.hid (goS_ok.2 (by have h := HOK.out; rwa [List.take_of_length_le (by rw [HN.out]; exact Nat.le_refl _)] at h))
  have HBX5 := Lib.hid ((HBR.out.block bx (Array.getElem?_eq_some_iff.1 HBX2.out).1).trans HBX2.out)
  clear HOK HBR hk hlt e0 e1 e2 e3 e4 e5
  obtain ⟨w5, hw5⟩ : ∃ x, x = wr := ⟨_, rfl⟩
  rw [← hw5] at HBW HBX5
  have HW5 := Lib.hid hw5
  clear hw5
  rw [← HW5.out]
  have H00 : Hid (Ow StrR 1 9 w5.heap.size w5 (.slice none 0 0) (keysS (all.take 0))) := Lib.hid Ow.nil
  have HD00 : Hid (DstS (all.take 0)) := Lib.hid (by rw [List.take_zero]; exact List.Pairwise.nil)
  go_wp2_with fail
  go_loopw [13, 50] (fun o i wr => ∃ j : Nat, j ≤ k ∧ i = .int .i64 j ∧ Hid (DstS (all.take j)) ∧ Hid (Ow StrR 1 9 w5.heap.size wr o (keysS (all.take j))) ∧ Hid (Below w5.heap.size w5 wr)) (fun _ i _ => k - (intOf i).toNat)
  case atStart => exact ⟨0, Nat.zero_le _, rfl, HD00, H00, Lib.hid (Below.refl _ _)⟩
  case round =>
  obtain ⟨j, hj, rfl, HDS, HKS, HBR⟩ := hrel
  have HBW2 : Hid (Below w.heap.size w wr) := Lib.hid (HBW.out.trans (HBR.out.mono HBW.out.size))
  have hKL : (keysS (all.take j)).length = j := by unfold keysS; rw [List.length_map, List.length_take, HN.out]; omega
  obtain ⟨ko, kc, rfl, -, -⟩ := HKS.out.sp.shapeN hKL
  have HKL := Lib.hid hKL
  clear hKL
  by_cases hlt : j < k
  case pos =>
    obtain ⟨q, hq⟩ : ∃ s, all[j]? = some s := ⟨_, List.getElem?_eq_getElem (by rw [HN.out]; exact hlt)⟩
    obtain ⟨L, Q⟩ := q
    have hL0 : labelF L = 0 := (goS_ok.1 HGO.out _ (List.mem_of_getElem? hq)).1
    obtain ⟨b, off, cs, e8, ⟨t, u, rfl, ht, hu, hr64, hul⟩, -, hcell⟩ := (HV.out.below srR_mono HBW2.out).get hq
    obtain rfl := e8
    obtain ⟨ta, tc, rfl, -, -⟩ := ht.shape
    obtain ⟨tl, htl⟩ : ∃ n, L.length = n := ⟨_, rfl⟩
    obtain ⟨uo, uc, rfl, -, -, -⟩ := hu.shape
    obtain ⟨ul, hull⟩ : ∃ n, Q.length = n := ⟨_, rfl⟩
    simp only at ht hcell
    rw [htl] at ht hcell
    rw [hull] at hcell
    have c0 := hcell 0 _ rfl
    have c1 := hcell 1 _ rfl
    rw [Nat.add_zero] at c0
    have HQ := Lib.hid hq
    obtain ⟨wb, hwb⟩ : ∃ wb, wb = wr.alloc (.cells #[.slice ta tl tc, .slice uo ul uc] 88) := ⟨_, rfl⟩
    have hBB : Below wr.heap.size wr wb := by rw [hwb]; exact (Below.refl _ wr).alloc (Nat.le_refl _) _
    have hsb : wb.heap[wr.heap.size]? = some (.cells #[.slice ta tl tc, .slice uo ul uc] 88 (0, 0)) := by rw [hwb]; exact heap_alloc_new wr _
    have HTX := Lib.hid (text2_any (.slice ta tl tc) L wb (ht.below lbR_mono hBB) ((HT.out.below HBW2.out).below hBB))
    rw [hL0] at HTX
    obtain ⟨SK, hSK⟩ : ∃ S, kyL L = S := ⟨_, rfl⟩
    have hSK2 : textM (asM L) = SK := hSK
    rw [hSK2] at HTX
    have HSK := Lib.hid hSK
    have HSL : Hid (SK.length ≤ 1048576) := Lib.hid (by rw [← hSK]; have := kyL_len hL0; omega)
    have HKB := Lib.hid (HKS.out.below strR_mono hBB)
    have HBY := Lib.hid (HBR.out.trans (hBB.mono HBR.out.size))
    have hk0 : (0 : Int) ≤ (j : Int) := by omega
    have hk1 : (j : Int) < (k : Int) := by omega
    obtain ⟨⟨s0, s1⟩, -⟩ := bx2 hsb
    clear hq hL0 ht hu hr64 hul hcell htl hull hsb hSK hSK2
    go_upto_region 20 with (fail)
    rw [← hwb]
    clear hwb c0 c1
    generalize hby : wr.heap.size = yb at *
    go_wp2_with fail
    refine HTX.out.mono ?_
    rintro e w6 ⟨rfl, hb6⟩
    rw [if_pos rfl]
    have HK6 := Lib.hid (HKB.out.below strR_mono hb6)
    have HB6 := Lib.hid (HBY.out.trans (hb6.mono HBY.out.size))
    clear hb6 s0 s1 hBB
    have HCT := Lib.hid (containsT_any (.slice ko j kc) (keysS (all.take j)) SK w6 HK6.out.sp)
    obtain ⟨D, hD⟩ : ∃ D, decide (SK ∈ keysS (all.take j)) = D := ⟨_, rfl⟩
    rw [hD] at HCT
    have HD := Lib.hid hD
    clear hD
    go_wp2_with fail
    refine HCT.out.mono ?_
    rintro e w7 ⟨rfl, rfl⟩
    cases D with
    | true =>
      have HE : Hid (EvP all now x w (.returned (.tuple #[.slice none 0 0, .int .i64 8])) w6) := Lib.hid (by
        have hnd : ¬ DstS all := dst_not HQ.out (by have h := of_decide_eq_true HD.out; rw [← HSK.out] at h; exact h)
        have e : evlF all now x = 8 := by unfold evlF; rw [if_neg (by rw [HF.out]; decide), if_neg (by rw [HN.out]; omega), if_neg (by rw [HGO.out]; decide), if_pos hnd]
        exact ⟨HBW.out.trans (HB6.out.mono HBW.out.size), Or.inl ⟨by rw [e]; decide, by rw [e]⟩⟩)
      go_wp2_with fail
      go_ret2
      exact HE.out
    | false =>
      have HDS2 : Hid (DstS (all.take (j + 1))) := Lib.hid (dst_step HDS.out HQ.out (by have h := of_decide_eq_false HD.out; rw [← HSK.out] at h; exact h))
      obtain ⟨P, hP1, hP2, hP3, hrow⟩ := HK6.out
      rw [HKL.out] at hrow
      have HPP := Lib.hid (And.intro hP1 (And.intro hP2 hP3))
      have hbel6 : Below w5.heap.size w5 w6 := HB6.out
      have hsz6 : w5.heap.size ≤ w6.heap.size := HB6.out.size
      clear hP1 hP2 hP3
      go_wp2_with (at_builtin; refine append1 [.string (mkS SK)] elSt rfl _ _ rfl hrow hbel6 hsz6 rfl rfl rfl (one_all _ rfl) ?c4 ?c5 ?_)
      case c4 => omega
      case c5 => omega
      intro v7 w7 hown7 hbel7 hgr7
      obtain ⟨o7, c7, rfl, -, -, -⟩ := own_shape hown7
      have HK7 : Hid (Ow StrR 1 9 w5.heap.size w7 (.slice o7 (j + 1) c7) (keysS (all.take (j + 1)))) := Lib.hid (by
        rw [keysS_step HQ.out]
        show Ow StrR 1 9 w5.heap.size w7 _ (_ ++ [kyL L])
        rw [HSK.out]
        exact Ow.snoc (strR_grow _ _ _) HPP.out.1 HPP.out.2.1 HPP.out.2.2 hrow HKL.out.symm hgr7 hown7 rfl (show StrR w6 SK [.string (mkS SK)] from ⟨rfl, HSL.out⟩))
      have HB7 := Lib.hid hbel7
      clear hown7 hbel7 hgr7 hrow hbel6 hsz6
      go_wp2_with fail
      go_roundw
      case rel => exact ⟨j + 1, by omega, by go_num, HDS2, HK7, HB7⟩
      case measure => simp [intOf]; omega
  obtain rfl : j = k := by omega
  have HDA : Hid (DstS all) := Lib.hid (by have h := HDS.out; rwa [List.take_of_length_le (by rw [HN.out]; exact Nat.le_refl _)] at h)
  have HBX6 := Lib.hid ((HBR.out.block bx (Array.getElem?_eq_some_iff.1 HBX5.out).1).trans HBX5.out)
  clear HDS HKS HBR HKL hj hlt
  obtain ⟨w8, hw8⟩ : ∃ x, x = wr := ⟨_, rfl⟩
  rw [← hw8] at HBW2 HBX6
  have HW8 := Lib.hid hw8
  clear hw8
  rw [← HW8.out]
  by_cases hnow : now < -1152921504606846976 ∨ 1152921504606846976 < now
  · have HE : Hid (EvP all now x w (.returned (.tuple #[.slice none 0 0, .int .i64 6])) w8) := Lib.hid (by
      have e : evlF all now x = 6 := by unfold evlF; rw [if_neg (by rw [HF.out]; decide), if_neg (by rw [HN.out]; omega), if_neg (by rw [HGO.out]; decide), if_neg (by simpa using HDA.out), if_pos hnow]
      exact ⟨HBW2.out, Or.inl ⟨by rw [e]; decide, by rw [e]⟩⟩)
    by_cases h1 : now < -1152921504606846976
    · have t4 : decide (now < -1152921504606846976) = true := decide_eq_true h1
      go_wp2_with fail
      go_ret2
      exact HE.out
    · have h2 : 1152921504606846976 < now := by omega
      have t4 : decide (now < -1152921504606846976) = false := decide_eq_false h1
      have t5 : decide (1152921504606846976 < now) = true := decide_eq_true h2
      go_wp2_with fail
      go_ret2
      exact HE.out
  have h1 : ¬ now < -1152921504606846976 := by omega
  have h2 : ¬ 1152921504606846976 < now := by omega
  have t4 : decide (now < -1152921504606846976) = false := decide_eq_false h1
  have t5 : decide (1152921504606846976 < now) = false := decide_eq_false h2
  have HF0 : Hid (evlF all now x = 0) := Lib.hid (by unfold evlF; rw [if_neg (by rw [HF.out]; decide), if_neg (by rw [HN.out]; omega), if_neg (by rw [HGO.out]; decide), if_neg (by simpa using HDA.out), if_neg hnow])
  have HAO : Hid (AllOk all now) := Lib.hid ⟨srsok_of (goS_ok.1 HGO.out) HDA.out, goS_ok.1 HGO.out, by rw [HN.out]; omega, by omega, by omega⟩
  have HEV := Lib.hid (eval_any HAO.out d x _ _ _ _ _ _ (.slice ao j c) w8 (HEX.out w8 HBW2.out) (exF_ok HF.out).2 (HV.out.below srR_mono HBW2.out) (HT.out.below HBW2.out) (by obtain ⟨q, hq⟩ := HM.out; exact ⟨q, (HBW2.out.cell (p := ⟨_, 0, none⟩) (cell_lt hq)).trans hq⟩))
  obtain ⟨ER, hER⟩ : ∃ E, evX all now x = E := ⟨_, rfl⟩
  rw [hER] at HEV
  have HER := Lib.hid hER
  have hEl : ER.length ≤ 200 := by
    have h := (ev_ak HAO.out.ok now (szX x) x (Nat.le_refl _) (exF_ok HF.out).2).2.len
    rw [hER, HN.out] at h
    omega
  obtain ⟨⟨e0, e1, e2, e3, e4, e5⟩, -⟩ := bx6 HBX6.out
  clear hnow h1 h2 hER
  go_wp2_with fail
  refine HEV.out.mono ?_
  rintro e w9 ⟨v9, rfl, ho9, hb9⟩
  obtain ⟨m, hm⟩ : ∃ m, ER.length = m := ⟨_, rfl⟩
  rw [hm] at hEl
  obtain ⟨o9, c9, rfl, -, -⟩ := ho9.sp.shapeN hm
  have HM9 := Lib.hid hm
  have HO9 := Lib.hid ho9
  have HB9 := Lib.hid (HBW2.out.trans (hb9.mono HBW2.out.size))
  have HZ0 : Hid (Ow (fun _ r c => RdR w9 r c) 2 96 w9.heap.size w9 (.slice none 0 0) (ER.take 0)) := Lib.hid (by rw [List.take_zero]; exact Ow.nil)
  clear ho9 hb9 hm e0 e1 e2 e3 e4 e5 t4 t5
  go_wp2_with fail
  go_loopw [18, 80] (fun o i wr => ∃ i' : Nat, i' ≤ m ∧ i = .int .i64 i' ∧ Hid (Ow (fun _ r c => RdR w9 r c) 2 96 w9.heap.size wr o (ER.take i')) ∧ Hid (Below w9.heap.size w9 wr)) (fun _ i _ => m - (intOf i).toNat)
  case atStart => exact ⟨0, Nat.zero_le _, rfl, HZ0, Lib.hid (Below.refl _ _)⟩
  case round =>
  obtain ⟨i, hi, rfl, HZR, HBR⟩ := hrel
  have hil : (ER.take i).length = i := by rw [List.length_take, HM9.out]; omega
  obtain ⟨zo, zc, rfl, -, -⟩ := HZR.out.sp.shapeN hil
  by_cases hlt : i < m
  case neg =>
    obtain rfl : i = m := by omega
    have HE : Hid (EvP all now x w (.returned (.tuple #[.slice zo i zc, .int .i64 0])) wr) := Lib.hid (by
      refine ⟨HB9.out.trans (HBR.out.mono HB9.out.size), Or.inr ⟨HF0.out, _, rfl, ?_⟩⟩
      have h := HZR.out
      rw [List.take_of_length_le (by rw [HM9.out]; exact Nat.le_refl _)] at h
      obtain ⟨P, h1, h2, h3, h4⟩ := h.sp
      rw [HER.out]
      exact ⟨P, h1, h2, fun p hp => rdR_mono _ _ _ _ (h3 p hp) HBR.out, h4⟩)
    go_wp2_with fail
    go_ret2
    exact HE.out
  obtain ⟨r, hr⟩ : ∃ r, ER[i]? = some r := ⟨_, List.getElem?_eq_getElem (by rw [HM9.out]; exact hlt)⟩
  obtain ⟨L, V⟩ := r
  obtain ⟨b, off, cs, e8, hro, -, hcell⟩ := (HO9.out.sp).get hr
  obtain rfl := e8
  obtain ⟨t, rfl, ht⟩ := hro
  obtain ⟨ta, tc, rfl, -, -⟩ := ht.shape
  obtain ⟨tl, htl⟩ : ∃ n, L.length = n := ⟨_, rfl⟩
  simp only at ht hcell
  rw [htl] at ht hcell
  obtain ⟨Sk, hSk⟩ : ∃ S, mkS (kyL L) = S := ⟨_, rfl⟩
  rw [hSk] at hcell
  have c0 := hcell 0 _ rfl
  have c1 := hcell 1 _ rfl
  have c2 := hcell 2 _ rfl
  rw [Nat.add_zero] at c0
  have c0 := (HBR.out.cell (p := ⟨_, _, none⟩) (cell_lt c0)).trans c0
  have c1 := (HBR.out.cell (p := ⟨_, _, none⟩) (cell_lt c1)).trans c1
  have c2 := (HBR.out.cell (p := ⟨_, _, none⟩) (cell_lt c2)).trans c2
  have HTS : Hid (RdR w9 (L, V) [.slice ta tl tc, .int .i64 V]) := Lib.hid ⟨_, rfl, ht.sp⟩
  have HRJ := Lib.hid hr
  obtain ⟨wb, hwb⟩ : ∃ wb, wb = wr.alloc (.cells #[.string Sk, .slice ta tl tc, .int .i64 V] 98) := ⟨_, rfl⟩
  have hBB : Below wr.heap.size wr wb := by rw [hwb]; exact (Below.refl _ wr).alloc (Nat.le_refl _) _
  have hsb : wb.heap[wr.heap.size]? = some (.cells #[.string Sk, .slice ta tl tc, .int .i64 V] 98 (0, 0)) := by rw [hwb]; exact heap_alloc_new wr _
  obtain ⟨⟨s0, s1, s2⟩, -⟩ := bx3 hsb
  obtain ⟨P, hP1, hP2, hP3, hrow⟩ := HZR.out
  have hrowb := own_below hrow hBB
  rw [hil] at hrowb
  have hbelb : Below w9.heap.size w9 wb := HBR.out.trans (hBB.mono HBR.out.size)
  have hszb : w9.heap.size ≤ wb.heap.size := hbelb.size
  have HPP := Lib.hid (And.intro hP1 (And.intro hP2 hP3))
  have HIL := Lib.hid hil
  have hi0 : (0 : Int) ≤ (i : Int) := by omega
  have hi1 : (i : Int) < (m : Int) := by omega
  clear hr hcell ht htl hsb hrow hP1 hP2 hP3 hil hSk hBB
  go_upto_region 31 with (fail)
  rw [← hwb]
  clear hwb c0 c1 c2
  generalize hby : wr.heap.size = yb at *
  go_wp2_with (at_builtin; refine append1 [.slice ta tl tc, .int .i64 V] elRd rfl _ _ rfl hrowb hbelb hszb rfl rfl rfl (by intro x hx; simp at hx; rcases hx with rfl | rfl <;> rfl) ?c4 ?c5 ?_)
  case c4 => omega
  case c5 => omega
  intro v7 w7 hown7 hbel7 hgr7
  obtain ⟨o7, c7, rfl, -, -, -⟩ := own_shape hown7
  have HZ7 : Hid (Ow (fun _ r c => RdR w9 r c) 2 96 w9.heap.size w7 (.slice o7 (i + 1) c7) (ER.take (i + 1))) := Lib.hid (by
    rw [List.take_add_one, HRJ.out]
    exact Ow.snoc (R := fun _ r c => RdR w9 r c) (fun w w' a c u m us h _ _ => h) HPP.out.1 HPP.out.2.1 HPP.out.2.2 hrowb HIL.out.symm hgr7 hown7 rfl HTS.out)
  have HB7 := Lib.hid hbel7
  clear hown7 hbel7 hgr7 hrowb hbelb hszb s0 s1 s2
  go_wp2_with fail
  go_roundw
  case rel => exact ⟨i + 1, by omega, by go_num, HZ7, HB7⟩
  case measure => simp [intOf]; omega
end Go.Proofs.YtjmplhkdohlbcaaGreatDoor.Evl
/-
  Labels: the walk of begins.
-/
namespace Go.Proofs.YtjmplhkdohlbcaaGreatDoor.Lab
open Go.RowKit Go.Gh
set_option linter.unusedVariables false
set_option linter.unusedSimpArgs false
theorem begins_any (a b : By) (w : World) : Calls Tryz.prog 53 #[.string (mkS a), .string (mkS b)] w fun e w' => e = .returned (.bool (b.isPrefixOf a)) ∧ w' = w := by
  have ha := mkS_size a
  have hb := mkS_size b
  have hx := mkS_ext a 0 b.length
  have hlb := mkS_list b
  have hpp : ∀ h : b.length ≤ a.length, ((mkS (a.take b.length)).toList == b) = b.isPrefixOf a := by
    intro h
    rw [mkS_list, Bool.eq_iff_iff, beq_iff_eq, List.isPrefixOf_iff_prefix]
    constructor
    · intro e; exact ⟨a.drop b.length, by conv => lhs; lhs; rw [← e]
                                          exact List.take_append_drop _ _⟩
    · rintro ⟨t, rfl⟩; rw [List.take_left]
  rw [Nat.sub_zero, List.drop_zero] at hx
  obtain ⟨F, hF⟩ : ∃ F, b.isPrefixOf a = F := ⟨_, rfl⟩
  rw [hF] at hpp ⊢
  by_cases hl : b.length ≤ a.length
  · have hq := hpp hl
    obtain ⟨X, hX⟩ : ∃ X, mkS (a.take b.length) = X := ⟨_, rfl⟩
    rw [hX] at hx hq
    obtain ⟨SA, hSA⟩ : ∃ X, mkS a = X := ⟨_, rfl⟩
    obtain ⟨SB, hSB⟩ : ∃ X, mkS b = X := ⟨_, rfl⟩
    rw [hSA] at ha hx ⊢
    rw [hSB] at hb hlb ⊢
    rw [← hlb] at hq
    obtain ⟨n, hn⟩ : ∃ n, a.length = n := ⟨_, rfl⟩
    obtain ⟨m, hm⟩ : ∃ n, b.length = n := ⟨_, rfl⟩
    rw [hn] at ha hl
    rw [hm] at hb hl hx
    have hli : (m : Int) ≤ (n : Int) := by omega
    clear hn hm hF hpp hX hSA hSB hlb
    go_enter Tryz.func53, Tryz.ntmps53
    go_wp2_with fail
    go_ret
    exact ⟨rfl, rfl⟩
  · have hF2 : F = false := by
      rw [← hF]
      cases h : b.isPrefixOf a with
      | false => rfl
      | true => exact absurd (List.isPrefixOf_iff_prefix.1 h).length_le hl
    subst hF2
    obtain ⟨SA, hSA⟩ : ∃ X, mkS a = X := ⟨_, rfl⟩
    obtain ⟨SB, hSB⟩ : ∃ X, mkS b = X := ⟨_, rfl⟩
    rw [hSA] at ha ⊢
    rw [hSB] at hb ⊢
    have hli : ¬ (SB.size : Int) ≤ (SA.size : Int) := by omega
    clear hx hlb hpp hF ha hb hSA hSB hl
    go_enter Tryz.func53, Tryz.ntmps53
    go_wp2_with fail
    go_ret
    exact ⟨by simp, rfl⟩
end Go.Proofs.YtjmplhkdohlbcaaGreatDoor.Lab
/-
  Labels that fit matches: the walk of FitsAll.
-/
namespace Go.Proofs.YtjmplhkdohlbcaaGreatDoor.Lab
open Go.RowKit Go.Gh
set_option linter.unusedVariables false
set_option linter.unusedSimpArgs false
theorem ok_memF {M : List Mt} (h : matchF M = 0) {m : Mt} (hm : m ∈ M) : 1 ≤ m.kd ∧ m.kd ≤ 4 ∧ m.nm.length ≤ 20 ∧ m.vl.length ≤ 40 := by
  obtain ⟨h1, h2, h3, h4⟩ := (matchF_zero h).2 m hm
  exact ⟨h1, h2, (nameOk_all h3).2.1, h4⟩
def anyAt (v s : By) (k : Nat) : Bool := (List.range k).any fun i => s.isPrefixOf (v.drop i)
set_option maxHeartbeats 16000000 in
set_option maxRecDepth 100000 in
theorem fitsall_any (v u : Value) (L : List Lb) (M : List Mt) (w : World) (hs : Sp LbR 2 w v L) (ht : Sp MtR 3 w u M) (h0 : labelF L = 0) (h1 : matchF M = 0) : Calls Tryz.prog 26 #[v, u] w fun e w' => e = .returned (.bool (fitsB L M)) ∧ Below w.heap.size w w' := by
  obtain ⟨ao, c, rfl, -, -⟩ := hs.shape
  obtain ⟨p, hp⟩ : ∃ n, L.length = n := ⟨_, rfl⟩
  rw [hp] at hs ⊢
  obtain ⟨n, hn⟩ : ∃ n, M.length = n := ⟨_, rfl⟩
  obtain ⟨mo, mc, rfl, hnc, hmc⟩ := ht.shapeN hn
  have HS := Lib.hid hs
  have HT := Lib.hid ht
  have HN := Lib.hid hn
  have HLF := Lib.hid h0
  have HOK := Lib.hid (fun m (hm : m ∈ M) => ok_memF h1 hm)
  obtain ⟨R, hR⟩ : ∃ a, fitsB L M = a := ⟨_, rfl⟩
  rw [hR]
  have HR := Lib.hid hR
  clear hp hs ht hn hR h0 h1
  go_enter Tryz.func26, Tryz.ntmps26
  go_wp2_with fail
  go_loopw [12] (fun i wr => ∃ (k : Nat), k ≤ n ∧ i = .int .i64 k ∧ Hid ((M.take k).all (fitB L) = true) ∧ Below w.heap.size w wr) (fun i _ => n - (intOf i).toNat)
  case atStart => exact ⟨0, Nat.zero_le _, rfl, Lib.hid rfl, Below.refl _ _⟩
  case round =>
    obtain ⟨k, hk, rfl, HA, hbel⟩ := hrel
    obtain ⟨wB, rfl⟩ : ∃ x, x = wr := ⟨_, rfl⟩
    have hsz := hbel.size
    by_cases hlt : k < n
    case neg =>
      obtain rfl : k = n := by omega
      have HF : Hid (R = true) := Lib.hid (by
        have h := HA.out
        rw [List.take_of_length_le (by rw [HN.out]; exact Nat.le_refl _)] at h
        rw [← HR.out]
        exact h)
      go_wp2_with fail
      go_ret
      rw [HF.out]
      exact ⟨rfl, hbel⟩
    obtain ⟨x, hx⟩ : ∃ x, M[k]? = some x := ⟨_, List.getElem?_eq_getElem (by rw [HN.out]; exact hlt)⟩
    obtain ⟨o1, o2, o3, o4⟩ := HOK.out x (List.mem_of_getElem? hx)
    obtain ⟨b, off, cs, rfl, ⟨rfl, hl1, hl2, hl3, hl4⟩, _, hck⟩ := (HT.out.below mtR_mono hbel).get hx
    have c0 := hck 0 _ rfl
    have c1 := hck 1 _ rfl
    have c2 := hck 2 _ rfl
    rw [Nat.add_zero] at c0
    obtain ⟨F, hF⟩ : ∃ F, fitB L x = F := ⟨_, rfl⟩
    have HX := Lib.hid hx
    have HFF := Lib.hid hF
    have HVI := Lib.hid (fun W (hb : Below w.heap.size w W) => valuein_any _ L x.nm W (HS.out.below lbR_mono hb))
    rw [val_same HLF.out] at HVI
    unfold fitB at hF
    obtain ⟨vf, hvf⟩ : ∃ z, valF L x.nm = z := ⟨_, rfl⟩
    have hv40 : vf.length ≤ 40 := by rw [← hvf]; exact valF_len HLF.out _
    rw [hvf] at hF HVI
    have HEQ := Lib.hid (str_eq vf x.vl)
    have HBG := Lib.hid (fun W => begins_any vf x.vl W)
    have HBI := Lib.hid (fun i W => begins_any (vf.drop i) x.vl W)
    have HCT := Lib.hid (contains_upto vf x.vl)
    have HAN := Lib.hid (any_next vf x.vl)
    obtain ⟨xv, hxv⟩ : ∃ z, x.vl = z := ⟨_, rfl⟩
    rw [hxv] at hF HEQ HBG HBI HCT HAN c2
    have HX3 := Lib.hid (mkS_ext vf)
    have hvs := mkS_size vf
    obtain ⟨K, hK⟩ : ∃ z, x.kd = z := ⟨_, rfl⟩
    obtain ⟨Sn, hSn⟩ : ∃ z, mkS x.nm = z := ⟨_, rfl⟩
    obtain ⟨V, hV⟩ : ∃ z, mkS xv = z := ⟨_, rfl⟩
    obtain ⟨VF, hVF⟩ : ∃ z, mkS vf = z := ⟨_, rfl⟩
    rw [hSn, hVF] at HVI
    rw [hVF, hV] at HEQ HBG
    rw [hV] at HBI
    rw [hVF] at HX3 hvs
    rw [hK] at c0 hF o1 o2
    rw [hSn] at c1
    rw [hV] at c2
    obtain ⟨vn, hvn⟩ : ∃ z, VF.size = z := ⟨_, rfl⟩
    rw [hvn] at hvs
    have HF := Lib.hid hF
    have HVN := Lib.hid hvs
    have hvn40 : vn ≤ 40 := by omega
    clear hck hx hF hl1 hl2 hl3 hl4 hK hSn hV hVF hxv hvf o3 o4 hvs
    go_upto_region 4 with (fail)
    obtain ⟨wA, hwA⟩ : ∃ wA, wA = wB.alloc (Obj.cells #[.int .i64 K, .string Sn, .string V] 73) := ⟨_, rfl⟩
    have hbox : wA.heap[wB.heap.size]? = some (.cells #[.int .i64 K, .string Sn, .string V] 73 (0, 0)) := by rw [hwA]; exact heap_alloc_new wB _
    have hbA : Below w.heap.size w wA := by rw [hwA]; exact hbel.alloc hsz _
    rw [← hwA]
    obtain ⟨⟨d0, d1, d2⟩, -⟩ := bx3 hbox
    have HC := Lib.hid (HVI.out wA hbA)
    have HBA := Lib.hid hbA
    have hsG : wB.heap.size < wA.heap.size := (Array.getElem?_eq_some_iff.1 hbox).1
    generalize wB.heap.size = bx at *
    clear hwA hbA c0 c1 c2
    go_upto_region 5 with (go_at_call 54; refine HC.out.mono ?_; rintro e w3 ⟨rfl, hb3⟩; have hbox3 := (hb3.block bx hsG).trans hbox; have HB3 := Lib.hid (HBA.out.trans (hb3.mono HBA.out.size)); clear hb3 d0 d1 d2; obtain ⟨⟨d0, d1, d2⟩, -⟩ := bx3 hbox3)
    cases F with
    | true =>
      have HA2 := Lib.hid (fits_yes HA.out HX.out HFF.out)
      by_cases k1 : K = 1
      · subst k1
        have hf := HF.out
        rw [if_pos rfl] at hf
        have heq := HEQ.out
        rw [hf] at heq
        clear hf
        go_wp2_with fail
        go_roundw
        case rel => exact ⟨k + 1, by omega, by go_num, HA2, HB3.out⟩
        case measure => simp [intOf]; omega
      have b1 : (K == 1) = false := beq_eq_false_iff_ne.2 k1
      by_cases k2 : K = 2
      · subst k2
        have hf := HF.out
        rw [if_neg (by decide), if_pos rfl] at hf
        have heq := HEQ.out
        rw [show decide (vf = xv) = false by revert hf; cases decide (vf = xv) <;> simp] at heq
        clear hf k1
        go_wp2_with fail
        go_roundw
        case rel => exact ⟨k + 1, by omega, by go_num, HA2, HB3.out⟩
        case measure => simp [intOf]; omega
      have b2 : (K == 2) = false := beq_eq_false_iff_ne.2 k2
      by_cases k3 : K = 3
      · subst k3
        have hf := HF.out
        rw [if_neg (by decide), if_neg (by decide), if_pos rfl] at hf
        rw [hf] at HBG
        clear hf k1 k2
        go_wp2_with (go_at_call 53; refine (HBG.out _).mono ?_; rintro e w4 ⟨rfl, rfl⟩)
        go_roundw
        case rel => exact ⟨k + 1, by omega, by go_num, HA2, HB3.out⟩
        case measure => simp [intOf]; omega
      have b3 : (K == 3) = false := beq_eq_false_iff_ne.2 k3
      have hf := HF.out
      rw [if_neg k1, if_neg k2, if_neg k3, HCT.out, HVN.out.symm] at hf
      have HFA : Hid (anyAt vf xv (vn + 1) = true) := Lib.hid hf
      have HBX3 := Lib.hid hbox3
      clear hf k1 k2 k3 hbox3
      go_wp2_with fail
      clear d0 d1 d2
      go_loopw [8, 25] (fun u y wx => ∃ j : Nat, j ≤ vn + 1 ∧ y = .int .i64 j ∧ u = .bool (anyAt vf xv j) ∧ Hid (wx.heap[bx]? = some (.cells #[.int .i64 K, .string Sn, .string V] 73 (0, 0))) ∧ Hid (Below w.heap.size w wx)) (fun _ y _ => vn + 1 - (intOf y).toNat)
      case atStart => exact ⟨0, by omega, rfl, rfl, HBX3, HB3⟩
      case round =>
        obtain ⟨j, hj, rfl, rfl, HBJ, HBW⟩ := hrel
        obtain ⟨⟨d0, d1, d2⟩, -⟩ := bx3 HBJ.out
        by_cases hjl : j < vn + 1
        case neg =>
          obtain rfl : j = vn + 1 := by omega
          rw [HFA.out]
          have hji : ¬ ((vn : Int) + 1 < (vn : Int) + 1) := by omega
          go_wp2_with fail
          refine ⟨⟨k + 1, by omega, by go_num, HA2, HBW.out⟩, ?_⟩
          simp [intOf]
          omega
        have hjv : (j : Int) ≤ (vn : Int) := by omega
        have hjn : (j : Int) < (vn : Int) + 1 := by omega
        have HNX := Lib.hid (HAN.out j)
        obtain ⟨A, hA⟩ : ∃ A, anyAt vf xv j = A := ⟨_, rfl⟩
        have HAJ := Lib.hid hA
        rw [hA]
        clear hA
        cases A with
        | true =>
          have HU : Hid (anyAt vf xv (j + 1) = true) := Lib.hid (by
            have h1 := HNX.out
            have h2 := HAJ.out
            unfold anyAt at h2 ⊢
            rw [h1, h2]
            rfl)
          go_wp2_with fail
          go_quiet (fail)
          go_wp2_with fail
          go_roundw
          case rel => exact ⟨j + 1, by omega, by go_num, by rw [HU.out], HBJ, Lib.hid (below_drewN HBW.out _)⟩
          case measure => simp [intOf]; omega
        | false =>
          have hexj : VF.extract j vn = mkS (vf.drop j) := by rw [HX3.out, List.take_of_length_le (by rw [List.length_drop, HVN.out]; exact Nat.le_refl _)]
          have HBJI := Lib.hid (HBI.out j)
          obtain ⟨PC, hPC⟩ : ∃ z, mkS (vf.drop j) = z := ⟨_, rfl⟩
          rw [hPC] at hexj HBJI
          obtain ⟨C, hC⟩ : ∃ C, xv.isPrefixOf (vf.drop j) = C := ⟨_, rfl⟩
          rw [hC] at HBJI
          have HU : Hid (anyAt vf xv (j + 1) = C) := Lib.hid (by
            have h1 := HNX.out
            have h2 := HAJ.out
            unfold anyAt at h2 ⊢
            rw [h1, h2, hC]
            rfl)
          clear hPC hC
          go_wp2_with fail
          go_quiet ((go_at_call 53; refine Calls.quiet_of_same (HBJI.out _)))
          go_wp2_with fail
          go_roundw
          case rel => exact ⟨j + 1, by omega, by go_num, by rw [HU.out], HBJ, Lib.hid (below_drewN HBW.out _)⟩
          case measure => simp [intOf]; omega
    | false =>
      have HRF : Hid (R = false) := Lib.hid (by rw [← HR.out]; exact fits_no HX.out HFF.out)
      by_cases k1 : K = 1
      · subst k1
        have hf := HF.out
        rw [if_pos rfl] at hf
        have heq := HEQ.out
        rw [hf] at heq
        clear hf
        go_wp2_with fail
        go_ret
        rw [HRF.out]
        exact ⟨rfl, HB3.out⟩
      have b1 : (K == 1) = false := beq_eq_false_iff_ne.2 k1
      by_cases k2 : K = 2
      · subst k2
        have hf := HF.out
        rw [if_neg (by decide), if_pos rfl] at hf
        have heq := HEQ.out
        rw [show decide (vf = xv) = true by revert hf; cases decide (vf = xv) <;> simp] at heq
        clear hf k1
        go_wp2_with fail
        go_ret
        rw [HRF.out]
        exact ⟨rfl, HB3.out⟩
      have b2 : (K == 2) = false := beq_eq_false_iff_ne.2 k2
      by_cases k3 : K = 3
      · subst k3
        have hf := HF.out
        rw [if_neg (by decide), if_neg (by decide), if_pos rfl] at hf
        rw [hf] at HBG
        clear hf k1 k2
        go_wp2_with (go_at_call 53; refine (HBG.out _).mono ?_; rintro e w4 ⟨rfl, rfl⟩)
        go_ret
        rw [HRF.out]
        exact ⟨rfl, HB3.out⟩
      have b3 : (K == 3) = false := beq_eq_false_iff_ne.2 k3
      have hf := HF.out
      rw [if_neg k1, if_neg k2, if_neg k3, HCT.out, HVN.out.symm] at hf
      have HFA : Hid (anyAt vf xv (vn + 1) = false) := Lib.hid hf
      have HBX3 := Lib.hid hbox3
      clear hf k1 k2 k3 hbox3
      go_wp2_with fail
      clear d0 d1 d2
      go_loopw [8, 25] (fun u y wx => ∃ j : Nat, j ≤ vn + 1 ∧ y = .int .i64 j ∧ u = .bool (anyAt vf xv j) ∧ Hid (wx.heap[bx]? = some (.cells #[.int .i64 K, .string Sn, .string V] 73 (0, 0))) ∧ Hid (Below w.heap.size w wx)) (fun _ y _ => vn + 1 - (intOf y).toNat)
      case atStart => exact ⟨0, by omega, rfl, rfl, HBX3, HB3⟩
      case round =>
        obtain ⟨j, hj, rfl, rfl, HBJ, HBW⟩ := hrel
        obtain ⟨⟨d0, d1, d2⟩, -⟩ := bx3 HBJ.out
        by_cases hjl : j < vn + 1
        case neg =>
          obtain rfl : j = vn + 1 := by omega
          rw [HFA.out]
          have hji : ¬ ((vn : Int) + 1 < (vn : Int) + 1) := by omega
          go_wp2_with fail
          go_ret
          rw [HRF.out]
          exact ⟨rfl, HBW.out⟩
        have hjv : (j : Int) ≤ (vn : Int) := by omega
        have hjn : (j : Int) < (vn : Int) + 1 := by omega
        have HNX := Lib.hid (HAN.out j)
        obtain ⟨A, hA⟩ : ∃ A, anyAt vf xv j = A := ⟨_, rfl⟩
        have HAJ := Lib.hid hA
        rw [hA]
        clear hA
        cases A with
        | true =>
          have HU : Hid (anyAt vf xv (j + 1) = true) := Lib.hid (by
            have h1 := HNX.out
            have h2 := HAJ.out
            unfold anyAt at h2 ⊢
            rw [h1, h2]
            rfl)
          go_wp2_with fail
          go_quiet (fail)
          go_wp2_with fail
          go_roundw
          case rel => exact ⟨j + 1, by omega, by go_num, by rw [HU.out], HBJ, Lib.hid (below_drewN HBW.out _)⟩
          case measure => simp [intOf]; omega
        | false =>
          have hexj : VF.extract j vn = mkS (vf.drop j) := by rw [HX3.out, List.take_of_length_le (by rw [List.length_drop, HVN.out]; exact Nat.le_refl _)]
          have HBJI := Lib.hid (HBI.out j)
          obtain ⟨PC, hPC⟩ : ∃ z, mkS (vf.drop j) = z := ⟨_, rfl⟩
          rw [hPC] at hexj HBJI
          obtain ⟨C, hC⟩ : ∃ C, xv.isPrefixOf (vf.drop j) = C := ⟨_, rfl⟩
          rw [hC] at HBJI
          have HU : Hid (anyAt vf xv (j + 1) = C) := Lib.hid (by
            have h1 := HNX.out
            have h2 := HAJ.out
            unfold anyAt at h2 ⊢
            rw [h1, h2, hC]
            rfl)
          clear hPC hC
          go_wp2_with fail
          go_quiet ((go_at_call 53; refine Calls.quiet_of_same (HBJI.out _)))
          go_wp2_with fail
          go_roundw
          case rel => exact ⟨j + 1, by omega, by go_num, by rw [HU.out], HBJ, Lib.hid (below_drewN HBW.out _)⟩
          case measure => simp [intOf]; omega
end Go.Proofs.YtjmplhkdohlbcaaGreatDoor.Lab
