/-
  Ranks: the walks of weight, WeightOf, Weight.
-/
import Derived.Test.YtcljeedmiobepaaRk2
namespace Go.Proofs.Ytcljeedmiobepaa.Rk
open Go.RowKit Go.Gh
set_option linter.unusedVariables false
theorem wt_on {s : Rk} {x : Int} {i : Nat} {l : List Int} (hw : wellR s) (hl : s.lv[i]? = some l) : wrap64 ((cntLe x l : Int) * 2 ^ min i 64) = (cntLe x l : Int) * 2 ^ i ∧ wrap64 (wtTo s x i + (cntLe x l : Int) * 2 ^ i) = wtTo s x (i + 1) ∧ i < 20 ∧ l.Pairwise (· ≤ ·) ∧ l.length ≤ 64 := by
  obtain ⟨h1, h2, h3, h4, h5, h6⟩ := well_parts hw
  have hi : i < s.lv.length := (List.getElem?_eq_some_iff.1 hl).1
  have hm := h6 l (List.mem_of_getElem? hl)
  have hc := cntLe_le x l
  have hp := pow_le (i := i) (by omega)
  have hmul := mul_bnd (c := (cntLe x l : Int)) (C := 64) (p := 2 ^ i) (by omega) (by omega) (by omega) hp.2
  have hb := wtTo_bd (x := x) hw i (by omega)
  rw [Nat.min_eq_left (by omega)]
  exact ⟨IntWalk.wrap64_in _ (by omega), by rw [wtTo_step hl]; exact IntWalk.wrap64_in _ (by omega), by omega, hm.2, by omega⟩
/-- On the way through a level. -/
theorem wt_in {s : Rk} {x v : Int} {i j : Nat} {l : List Int} (hw : wellR s) (hl : s.lv[i]? = some l) (hv : l[j]? = some v) :
    (v ≤ x → wrap64 (wtTo s x i + (cntLe x (l.take j) : Int) * 2 ^ i + 2 ^ i) = wtTo s x i + (cntLe x (l.take (j + 1)) : Int) * 2 ^ i) ∧ (¬ v ≤ x → wtTo s x i + (cntLe x (l.take (j + 1)) : Int) * 2 ^ i = wtTo s x i + (cntLe x (l.take j) : Int) * 2 ^ i) := by
  obtain ⟨-, -, h3, -, h5⟩ := wt_on (x := x) hw hl
  have hp := pow_le (i := i) (by omega)
  have hb := wtTo_bd (x := x) hw i (by omega)
  have hc := cntLe_le x (l.take j)
  rw [List.length_take] at hc
  have hmul := mul_bnd (c := (cntLe x (l.take j) : Int)) (C := 64) (p := 2 ^ i) (by omega) (by omega) (by omega) hp.2
  rw [cntLe_take hv]
  refine ⟨fun h => ?_, fun h => by rw [if_neg h]; simp⟩
  rw [if_pos h, IntWalk.wrap64_in _ (by omega)]
  have e1 : ((cntLe x (l.take j) + 1 : Nat) : Int) * 2 ^ i = (cntLe x (l.take j) : Int) * 2 ^ i + 2 ^ i := by
    rw [Int.natCast_add, Int.add_mul]
    simp
  rw [e1]
  omega
theorem pow_on {i : Nat} (h : i < 20) : wrap64 ((2 : Int) ^ i * 2) = 2 ^ (i + 1) := by
  have hp := pow_le (i := i) (by omega)
  rw [IntWalk.wrap64_in _ (by omega), Int.pow_succ]
set_option maxHeartbeats 4000000 in
set_option maxRecDepth 100000 in
theorem weight_any (v : Value) (s : Rk) (x : Int) (w : World) (hv : RkV w v s) (hw : wellR s) :
    Calls Try.prog 145 #[v, .int .i64 x] w fun e w' => e = .returned (.int .i64 (wt s x)) ∧ Below w.heap.size w w' := by
  obtain ⟨t, u, rfl, ht, hu⟩ := hv
  obtain ⟨ao, c, rfl, hnc, hc, -⟩ := ht.shape
  obtain ⟨bo, d, rfl, hod, hd⟩ := hu.shape
  obtain ⟨L, hL⟩ : ∃ n, s.lv.length = n := ⟨_, rfl⟩
  obtain ⟨n, hn⟩ : ∃ n, s.tl.length = n := ⟨_, rfl⟩
  obtain ⟨wA, hwA⟩ : ∃ wA, wA = w.alloc (Obj.cells #[.int .i64 s.k, .slice ao n c, .slice bo L d, .int .i64 s.n, .int .i64 s.sl] 141) := ⟨_, rfl⟩
  have hbA : Below w.heap.size w wA := by rw [hwA]; exact (Below.refl _ _).alloc (Nat.le_refl _) _
  have hbox : wA.heap[w.heap.size]? = some (.cells #[.int .i64 s.k, .slice ao n c, .slice bo L d, .int .i64 s.n, .int .i64 s.sl] 141 (0, 0)) := by rw [hwA]; exact heap_alloc_new w _
  have HTA := Lib.hid (ht.below hbA)
  have HUA := Lib.hid (hu.below lvR_mono hbA)
  rw [hn] at HTA hnc ⊢
  rw [hL] at HUA hod ⊢
  have HL := Lib.hid hL
  have HW := Lib.hid hwA
  have HBA := Lib.hid hbA
  have HWL := Lib.hid hw
  clear hn hL ht hu hwA hbA hw
  go_enter Try.func145, Try.ntmps145
  go_upto_region 1 with (fail)
  rw [← HW.out]
  obtain ⟨bx, hbx⟩ : ∃ bx, w.heap.size = bx := ⟨_, rfl⟩
  rw [hbx] at hbox ⊢
  have HBX := Lib.hid hbx
  obtain ⟨⟨d0, d1, d2, d3, d4⟩, -⟩ := bx5 hbox
  clear hbx hbox
  go_wp2_with fail
  refine (upto_any _ s.tl x _ HTA.out (well_parts HWL.out).2.2.2.2.1).mono ?_
  rintro e w1 ⟨rfl, rfl⟩
  go_wp2_with fail
  go_loopw [5, 15] (fun y i wr => ∃ k : Nat, k ≤ L ∧ i = .int .i64 k ∧ y = .int .i64 (wtTo s x k) ∧ wA = wr) (fun _ i _ => L - (intOf i).toNat)
  case atStart => exact ⟨0, Nat.zero_le _, rfl, rfl, rfl⟩
  case round =>
    obtain ⟨k, hk, rfl, rfl, rfl⟩ := hrel
    by_cases hlt : k < L
    · obtain ⟨l, hl⟩ : ∃ l, s.lv[k]? = some l := ⟨_, List.getElem?_eq_getElem (by rw [HL.out]; exact hlt)⟩
      obtain ⟨g, off, cs, rfl, ⟨t, rfl, hns⟩, _, hck⟩ := HUA.out.get hl
      have c0 := hck 0 _ rfl
      rw [Nat.add_zero, Nat.mul_one] at c0
      obtain ⟨lo, lc, rfl, hlc, hlc2, -⟩ := hns.shape
      have HNS := Lib.hid hns
      obtain ⟨e1, e2, e3, hp, -⟩ := wt_on (x := x) HWL.out hl
      rw [Nat.min_eq_left (by omega)] at e1
      have HE : Hid (wrap64 (wtTo s x k + wrap64 ((cntLe x l : Int) * 2 ^ k)) = wtTo s x (k + 1)) := Lib.hid (by rw [e1, e2])
      clear hck hl hns e1 e2
      go_wp2_with fail
      refine (upto_any _ l x _ HNS.out hp).mono ?_
      rintro e w1 ⟨rfl, rfl⟩
      go_wp2_with fail
      go_roundw
      case rel => exact ⟨k + 1, by omega, by go_num, by rw [← HE.out], by first | rfl | trivial⟩
      case measure => simp [intOf]; omega
    · have hkL : k = L := by omega
      subst hkL
      have HE : Hid (wt s x = wtTo s x k) := Lib.hid (by unfold wt; rw [HL.out])
      go_wp2_with fail
      go_ret
      exact ⟨by rw [HE.out]; rfl, HBA.out⟩
set_option maxHeartbeats 4000000 in
set_option maxRecDepth 100000 in
theorem weightof_any (v : Value) (s : Rk) (x : Int) (w : World) (hv : RkV w v s) (hw : wellR s) :
    Calls Try.prog 92 #[v, .int .i64 x] w fun e w' => e = .returned (.int .i64 (wt s x)) ∧ Below w.heap.size w w' := by
  obtain ⟨t, u, rfl, ht, hu⟩ := hv
  obtain ⟨ao, c, rfl, hnc, hc, -⟩ := ht.shape
  obtain ⟨bo, d, rfl, hod, hd⟩ := hu.shape
  obtain ⟨L, hL⟩ : ∃ n, s.lv.length = n := ⟨_, rfl⟩
  obtain ⟨n, hn⟩ : ∃ n, s.tl.length = n := ⟨_, rfl⟩
  obtain ⟨wA, hwA⟩ : ∃ wA, wA = w.alloc (Obj.cells #[.int .i64 s.k, .slice ao n c, .slice bo L d, .int .i64 s.n, .int .i64 s.sl] 141) := ⟨_, rfl⟩
  have hbA : Below w.heap.size w wA := by rw [hwA]; exact (Below.refl _ _).alloc (Nat.le_refl _) _
  have hbox : wA.heap[w.heap.size]? = some (.cells #[.int .i64 s.k, .slice ao n c, .slice bo L d, .int .i64 s.n, .int .i64 s.sl] 141 (0, 0)) := by rw [hwA]; exact heap_alloc_new w _
  have HTA := Lib.hid (ht.below hbA)
  have HUA := Lib.hid (hu.below lvR_mono hbA)
  have hn64 : n ≤ 64 := by have := well_parts hw; omega
  rw [hn] at HTA hnc ⊢
  rw [hL] at HUA hod ⊢
  have HL := Lib.hid hL
  have HN := Lib.hid hn
  have HW := Lib.hid hwA
  have HBA := Lib.hid hbA
  have HWL := Lib.hid hw
  clear hn hL ht hu hwA hbA hw
  go_enter Try.func92, Try.ntmps92
  go_upto_region 1 with (fail)
  rw [← HW.out]
  obtain ⟨bx, hbx⟩ : ∃ bx, w.heap.size = bx := ⟨_, rfl⟩
  rw [hbx] at hbox ⊢
  have HBX := Lib.hid hbx
  obtain ⟨⟨d0, d1, d2, d3, d4⟩, -⟩ := bx5 hbox
  clear hbx hbox
  go_wp2_with fail
  go_loopw [5, 16] (fun y i wr => ∃ j : Nat, j ≤ n ∧ i = .int .i64 j ∧ y = .int .i64 (cntLe x (s.tl.take j) : Nat) ∧ wA = wr) (fun _ i _ => n - (intOf i).toNat)
  case atStart => exact ⟨0, Nat.zero_le _, rfl, rfl, rfl⟩
  case round =>
    obtain ⟨j, hj, rfl, rfl, rfl⟩ := hrel
    have hcl := cntLe_le x (s.tl.take j)
    rw [List.length_take] at hcl
    by_cases hlt : j < n
    · obtain ⟨a, ha⟩ : ∃ a, s.tl[j]? = some a := ⟨_, List.getElem?_eq_getElem (by rw [HN.out]; exact hlt)⟩
      obtain ⟨g, off, rfl, c0⟩ := HTA.out.at ha
      have HC := Lib.hid (cntLe_take (x := x) ha)
      clear ha
      by_cases hle : a ≤ x
      · have HC2 : Hid (cntLe x (s.tl.take (j + 1)) = cntLe x (s.tl.take j) + 1) := Lib.hid (by rw [HC.out, if_pos hle])
        go_wp2_with fail
        go_roundw
        case rel => exact ⟨j + 1, by omega, by go_num, by rw [HC2.out]; go_num, by first | rfl | trivial⟩
        case measure => simp [intOf]; omega
      · have HC2 : Hid (cntLe x (s.tl.take (j + 1)) = cntLe x (s.tl.take j)) := Lib.hid (by rw [HC.out, if_neg hle]; rfl)
        go_wp2_with fail
        go_roundw
        case rel => exact ⟨j + 1, by omega, by go_num, by rw [HC2.out], by first | rfl | trivial⟩
        case measure => simp [intOf]; omega
    · have hjn : j = n := by omega
      subst hjn
      have HC2 : Hid (((cntLe x (s.tl.take j) : Nat) : Int) = wtTo s x 0) := Lib.hid (by rw [List.take_of_length_le (by rw [HN.out]; exact Nat.le_refl _)]; rfl)
      rw [HC2.out]
      go_wp2_with fail
      go_loopw [5, 8, 29] (fun y e i wr => ∃ k : Nat, k ≤ L ∧ i = .int .i64 k ∧ y = .int .i64 (wtTo s x k) ∧ e = .int .i64 (2 ^ k) ∧ wA = wr) (fun _ _ i _ => L - (intOf i).toNat)
      case atStart => exact ⟨0, Nat.zero_le _, rfl, rfl, rfl, rfl⟩
      case round =>
        obtain ⟨k, hk, rfl, rfl, rfl, rfl⟩ := hrel
        by_cases hlt2 : k < L
        · obtain ⟨l, hl⟩ : ∃ l, s.lv[k]? = some l := ⟨_, List.getElem?_eq_getElem (by rw [HL.out]; exact hlt2)⟩
          obtain ⟨g, off, cs, rfl, ⟨t, rfl, hns⟩, _, hck⟩ := HUA.out.get hl
          have c0 := hck 0 _ rfl
          rw [Nat.add_zero, Nat.mul_one] at c0
          obtain ⟨lo, lc, rfl, hlc, hlc2, -⟩ := hns.shape
          have HLV := Lib.hid hl
          obtain ⟨-, -, e3, -, -⟩ := wt_on (x := x) HWL.out hl
          obtain ⟨m, hm⟩ : ∃ m, l.length = m := ⟨_, rfl⟩
          have HM := Lib.hid hm
          have HNS : Hid (Ns wA (.slice lo m lc) l) := Lib.hid (by rw [← hm]; exact hns)
          rw [hm] at c0 hlc
          obtain ⟨W, hW⟩ : ∃ W, wtTo s x k = W := ⟨_, rfl⟩
          obtain ⟨E, hE⟩ : ∃ E, (2 : Int) ^ k = E := ⟨_, rfl⟩
          have HWW := Lib.hid hW
          have HE := Lib.hid hE
          rw [hW, hE]
          clear hck hl hns hm hW hE
          go_wp2_with fail
          go_loopw [5, 35] (fun y i wx => ∃ (j : Nat) (z : Int), j ≤ m ∧ i = .int .i64 j ∧ y = .int .i64 z ∧ Hid (z = wtTo s x k + (cntLe x (l.take j) : Int) * 2 ^ k) ∧ wA = wx) (fun _ i _ => m - (intOf i).toNat)
          case atStart => exact ⟨0, W, Nat.zero_le _, rfl, rfl, Lib.hid (by rw [HWW.out]; show W = W + ((0 : Nat) : Int) * 2 ^ k; simp), rfl⟩
          case round =>
            obtain ⟨j, z, hj, rfl, rfl, HZ, rfl⟩ := hrel
            by_cases hlt3 : j < m
            · obtain ⟨a, ha⟩ : ∃ a, l[j]? = some a := ⟨_, List.getElem?_eq_getElem (by rw [HM.out]; exact hlt3)⟩
              obtain ⟨g2, off2, rfl, b0⟩ := HNS.out.at ha
              have HIN := Lib.hid (wt_in (x := x) HWL.out HLV.out ha)
              clear ha
              by_cases hle : a ≤ x
              · have HZ2 : Hid (wrap64 (z + E) = wtTo s x k + (cntLe x (l.take (j + 1)) : Int) * 2 ^ k) := Lib.hid (by rw [← HIN.out.1 hle, HZ.out, HE.out])
                obtain ⟨z2, hz2⟩ : ∃ z2, wrap64 (z + E) = z2 := ⟨_, rfl⟩
                rw [hz2] at HZ2
                have HZ3 := Lib.hid hz2
                clear hz2
                go_wp2_with fail
                go_roundw
                case rel => exact ⟨j + 1, z2, by omega, by go_num, by rw [← HZ3.out], HZ2, by first | rfl | trivial⟩
                case measure => simp [intOf]; omega
              · have HZ2 : Hid (z = wtTo s x k + (cntLe x (l.take (j + 1)) : Int) * 2 ^ k) := Lib.hid (by rw [HIN.out.2 hle]; exact HZ.out)
                go_wp2_with fail
                go_roundw
                case rel => exact ⟨j + 1, z, by omega, by go_num, rfl, HZ2, by first | rfl | trivial⟩
                case measure => simp [intOf]; omega
            · have hjm : j = m := by omega
              subst hjm
              have HZ2 : Hid (z = wtTo s x (k + 1)) := Lib.hid (by rw [HZ.out, List.take_of_length_le (by rw [HM.out]; exact Nat.le_refl _), wtTo_step HLV.out])
              have HP : Hid (wrap64 (E * 2) = 2 ^ (k + 1)) := Lib.hid (by rw [← HE.out]; exact pow_on e3)
              go_wp2_with fail
              go_roundw
              case rel => exact ⟨k + 1, by omega, by go_num, by rw [HZ2.out], by rw [← HP.out], by first | rfl | trivial⟩
              case measure => simp [intOf]; omega
        · have hkL : k = L := by omega
          subst hkL
          have HE : Hid (wt s x = wtTo s x k) := Lib.hid (by unfold wt; rw [HL.out])
          go_wp2_with fail
          go_ret
          exact ⟨by rw [HE.out]; rfl, HBA.out⟩
open Classical in
noncomputable def weightR (s : Rk) (x : Int) : Int × Int := if rankF s = 0 then (wt s x, 0) else (0, rankF s)
theorem rank_ok {s : Rk} (h : rankF s = 0) : wellR s := by
  unfold rankF at h
  split at h
  · assumption
  · simp at h
set_option maxHeartbeats 4000000 in
set_option maxRecDepth 100000 in
theorem Weight_any (v : Value) (s : Rk) (x : Int) (w : World) (hv : RkV w v s) :
    Calls Try.prog 89 #[v, .int .i64 x] w fun e w' => e = .returned (.tuple #[.int .i64 (weightR s x).1, .int .i64 (weightR s x).2]) ∧ Below w.heap.size w w' := by
  have HV := Lib.hid hv
  obtain ⟨t, u, rfl, ht, hu⟩ := hv
  obtain ⟨ao, c, rfl, hnc, hc, -⟩ := ht.shape
  obtain ⟨bo, d, rfl, hod, hd⟩ := hu.shape
  obtain ⟨L, hL⟩ : ∃ n, s.lv.length = n := ⟨_, rfl⟩
  obtain ⟨n, hn⟩ : ∃ n, s.tl.length = n := ⟨_, rfl⟩
  obtain ⟨E, hE⟩ : ∃ E, rankF s = E := ⟨_, rfl⟩
  have HE := Lib.hid hE
  rw [hn, hL] at HV ⊢
  obtain ⟨wA, hwA⟩ : ∃ wA, wA = w.alloc (Obj.cells #[.int .i64 s.k, .slice ao n c, .slice bo L d, .int .i64 s.n, .int .i64 s.sl] 141) := ⟨_, rfl⟩
  have hbA : Below w.heap.size w wA := by rw [hwA]; exact (Below.refl _ _).alloc (Nat.le_refl _) _
  have hbox : wA.heap[w.heap.size]? = some (.cells #[.int .i64 s.k, .slice ao n c, .slice bo L d, .int .i64 s.n, .int .i64 s.sl] 141 (0, 0)) := by rw [hwA]; exact heap_alloc_new w _
  have HW := Lib.hid hwA
  have HBA := Lib.hid hbA
  clear hn hL ht hu hwA hbA hnc hod hE
  go_enter Try.func89, Try.ntmps89
  go_upto_region 1 with (fail)
  rw [← HW.out]
  have hlt : w.heap.size < wA.heap.size := (Array.getElem?_eq_some_iff.1 hbox).1
  obtain ⟨⟨d0, d1, d2, d3, d4⟩, -⟩ := bx5 hbox
  go_wp2_with fail
  refine (rkcheck_any _ s _ (HV.out.below HBA.out)).mono ?_
  rw [HE.out]
  rintro e w1 ⟨rfl, hb1⟩
  have HB1 := Lib.hid (HBA.out.trans (hb1.mono HBA.out.size))
  have hbox1 := (hb1.block _ hlt).trans hbox
  clear d0 d1 d2 d3 d4 hb1 hbox
  obtain ⟨⟨d0, d1, d2, d3, d4⟩, -⟩ := bx5 hbox1
  by_cases hz : E = 0
  · subst hz
    have t1 : ((0 : Int) != 0) = false := rfl
    have HR : Hid (weightR s x = (wt s x, 0)) := Lib.hid (by unfold weightR; rw [if_pos HE.out])
    go_wp2_with fail
    refine (weight_any _ s x _ (HV.out.below HB1.out) (rank_ok HE.out)).mono ?_
    rintro e w2 ⟨rfl, hb2⟩
    go_wp2_with fail
    go_ret2
    rw [HR.out]
    exact ⟨rfl, HB1.out.trans (hb2.mono HB1.out.size)⟩
  · have t1 : (E != 0) = true := by rw [bne_iff_ne]; exact hz
    have HR : Hid (weightR s x = (0, E)) := Lib.hid (by unfold weightR; rw [HE.out, if_neg hz])
    clear hz
    go_wp2_with fail
    go_ret2
    rw [HR.out]
    exact ⟨rfl, HB1.out⟩
end Go.Proofs.Ytcljeedmiobepaa.Rk
