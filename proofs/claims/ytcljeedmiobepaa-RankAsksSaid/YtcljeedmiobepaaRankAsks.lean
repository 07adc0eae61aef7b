/-
  The walk of the law RankAsks.
-/
import Derived.Test.YtcljeedmiobepaaRk6
namespace Go.Proofs.Ytcljeedmiobepaa.RankAsks
open Go.RowKit Go.Gh Go.Proofs.Ytcljeedmiobepaa.Rk
set_option linter.unusedVariables false
theorem ask_fault {s : Rk} {x r E : Int} (h : rankF s = E) (hz : E ≠ 0) : weightR s x = (0, E) ∧ queryR s r = (0, E) := by
  unfold weightR queryR
  rw [h, if_neg hz, if_neg hz]
  exact ⟨rfl, rfl⟩
theorem ask_fine {s : Rk} {x : Int} (h : rankF s = 0) : weightR s x = (wt s x, 0) := by
  unfold weightR
  rw [if_pos h]
/-- There is such a place. -/
theorem exists_atR {s : Rk} {r : Int} : ∀ {ss : List Int}, ss.Pairwise (· ≤ ·) → ∃ i, AtR s r ss i
  | [], _ => ⟨0, Nat.le_refl _, fun j v hj => absurd hj (Nat.not_lt_zero _), fun j v _ hv => by simp at hv⟩
  | a :: ss, h => by
    obtain ⟨h1, h2⟩ := List.pairwise_cons.1 h
    by_cases hlt : wt s a < r
    · obtain ⟨i, e1, e2, e3⟩ := exists_atR (s := s) (r := r) h2
      refine ⟨i + 1, by rw [List.length_cons]; omega, fun j v hj hv => ?_, fun j v hj hv => ?_⟩
      · cases j with
        | zero =>
          obtain rfl : a = v := by simpa using hv
          exact hlt
        | succ j => exact e2 j v (by omega) (by simpa using hv)
      · cases j with
        | zero => omega
        | succ j => exact e3 j v (by omega) (by simpa using hv)
    · refine ⟨0, Nat.zero_le _, fun j v hj => absurd hj (Nat.not_lt_zero _), fun j v _ hv => ?_⟩
      cases j with
      | zero =>
        obtain rfl : a = v := by simpa using hv
        omega
      | succ j =>
        have hm := h1 v (List.mem_of_getElem? (show ss[j]? = some v by simpa using hv))
        have := wt_mono (s := s) hm
        omega
theorem best_step {s : Rk} {r : Int} {j : Nat} {v B : Int} {F : Bool} (hv : (keptR s)[j]? = some v) (hb : bestK s r j = (F, B)) : bestK s r (j + 1) = if r ≤ wt s v ∧ (F = false ∨ v < B) then (true, v) else (F, B) := by
  rw [bestK_succ hv, hb]
  rfl
set_option maxHeartbeats 8000000 in
set_option maxRecDepth 100000 in
theorem walk (v0 v1 v2 : Value) (w : World) (h0 : IsRk w v0) (h1 : IsInt .i64 w v1) (h2 : IsInt .i64 w v2) :
    Calls Try.prog 12 #[v0, v1, v2] w fun e w' => e = .returned (.bool true) ∧ Below w.heap.size w w' := by
  obtain ⟨s, hv⟩ := h0
  obtain ⟨x, rfl, -⟩ := h1
  obtain ⟨r, rfl, -⟩ := h2
  have HV := Lib.hid hv
  obtain ⟨t, u, rfl, ht, hu⟩ := hv
  obtain ⟨ao, c, rfl, -, -, -⟩ := ht.shape
  obtain ⟨bo, d, rfl, -, -⟩ := hu.shape
  obtain ⟨L, hL⟩ : ∃ n, s.lv.length = n := ⟨_, rfl⟩
  obtain ⟨n, hn⟩ : ∃ n, s.tl.length = n := ⟨_, rfl⟩
  rw [hn, hL] at HV ⊢
  obtain ⟨⟨wz, we⟩, hWR⟩ : ∃ q, weightR s x = q := ⟨_, rfl⟩
  obtain ⟨⟨qz, qe⟩, hQR⟩ : ∃ q, queryR s r = q := ⟨_, rfl⟩
  obtain ⟨E, hE⟩ : ∃ E, rankF s = E := ⟨_, rfl⟩
  have HWR := Lib.hid hWR
  have HQR := Lib.hid hQR
  have HE := Lib.hid hE
  obtain ⟨wA, hwA⟩ : ∃ wA, wA = w.alloc (Obj.cells #[.int .i64 s.k, .slice ao n c, .slice bo L d, .int .i64 s.n, .int .i64 s.sl] 141) := ⟨_, rfl⟩
  have hbA : Below w.heap.size w wA := by rw [hwA]; exact (Below.refl _ _).alloc (Nat.le_refl _) _
  have hbox : wA.heap[w.heap.size]? = some (.cells #[.int .i64 s.k, .slice ao n c, .slice bo L d, .int .i64 s.n, .int .i64 s.sl] 141 (0, 0)) := by rw [hwA]; exact heap_alloc_new w _
  have HW := Lib.hid hwA
  have HBA := Lib.hid hbA
  have HBOX := Lib.hid hbox
  have hlt0 : w.heap.size < wA.heap.size := (Array.getElem?_eq_some_iff.1 hbox).1
  have HX : Hid (∀ W, Below wA.heap.size wA W → W.heap[w.heap.size]? = some (.cells #[.int .i64 s.k, .slice ao n c, .slice bo L d, .int .i64 s.n, .int .i64 s.sl] 141 (0, 0)) ∧ Below w.heap.size w W ∧ RkV W (.agg #[.int .i64 s.k, .slice ao n c, .slice bo L d, .int .i64 s.n, .int .i64 s.sl]) s) := Lib.hid (fun W h =>
    ⟨(h.block _ hlt0).trans hbox, hbA.trans (h.mono hbA.size), HV.out.below (hbA.trans (h.mono hbA.size))⟩)
  clear hn hL ht hu hwA hbA hWR hQR hE
  go_enter Try.func12, Try.ntmps12
  go_upto_region 1 with (fail)
  rw [← HW.out]
  obtain ⟨⟨d0, d1, d2, d3, d4⟩, -⟩ := bx5 hbox
  clear hbox
  go_wp2_with fail
  refine (Weight_any _ s x _ (HX.out _ (Below.refl _ _)).2.2).mono ?_
  rw [HWR.out]
  rintro e w1 ⟨rfl, hb1⟩
  have HB1 := Lib.hid hb1
  clear d0 d1 d2 d3 d4 hb1
  obtain ⟨⟨d0, d1, d2, d3, d4⟩, -⟩ := bx5 (HX.out _ HB1.out).1
  go_wp2_with fail
  refine (Query_any _ s r _ (HX.out _ HB1.out).2.2).mono ?_
  rw [HQR.out]
  rintro e w2 ⟨rfl, hb2⟩
  have HB2 := Lib.hid (HB1.out.trans (hb2.mono HB1.out.size))
  clear d0 d1 d2 d3 d4 hb2
  obtain ⟨⟨d0, d1, d2, d3, d4⟩, -⟩ := bx5 (HX.out _ HB2.out).1
  go_wp2_with fail
  refine (rkfault_any _ s _ (HX.out _ HB2.out).2.2).mono ?_
  rw [HE.out]
  rintro e w3 ⟨rfl, hb3⟩
  have HB3 := Lib.hid (HB2.out.trans (hb3.mono HB2.out.size))
  clear d0 d1 d2 d3 d4 hb3
  obtain ⟨⟨d0, d1, d2, d3, d4⟩, -⟩ := bx5 (HX.out _ HB3.out).1
  by_cases hz : E = 0
  case neg =>
    have t1 : (E != 0) = true := by rw [bne_iff_ne]; exact hz
    have t2 : (E == E) = true := by simp
    obtain ⟨h1, h2⟩ := ask_fault (x := x) (r := r) HE.out hz
    rw [HWR.out] at h1
    rw [HQR.out] at h2
    obtain ⟨rfl, rfl⟩ := Prod.mk.injEq .. ▸ h1
    obtain ⟨rfl, rfl⟩ := Prod.mk.injEq .. ▸ h2
    clear hz h1 h2
    go_wp2_with fail
    go_ret
    exact ⟨rfl, (HX.out _ HB3.out).2.1⟩
  subst hz
  have t0 : ((0 : Int) != 0) = false := rfl
  have t00 : ((0 : Int) == 0) = true := rfl
  have h1 := ask_fine (x := x) HE.out
  rw [HWR.out] at h1
  obtain ⟨rfl, rfl⟩ := Prod.mk.injEq .. ▸ h1
  have HWL := Lib.hid (rank_ok HE.out)
  have tw : (wt s x != wt s x) = false := by simp
  generalize hW : wt s x = W at *
  have HWT := Lib.hid hW
  clear h1 hW
  go_wp2_with fail
  refine (weightof_any _ s x _ (HX.out _ HB3.out).2.2 HWL.out).mono ?_
  rw [HWT.out]
  rintro e w4 ⟨rfl, hb4⟩
  have HB4 := Lib.hid (HB3.out.trans (hb4.mono HB3.out.size))
  clear d0 d1 d2 d3 d4 hb4
  obtain ⟨⟨d0, d1, d2, d3, d4⟩, -⟩ := bx5 (HX.out _ HB4.out).1
  have hq := HQR.out
  unfold queryR at hq
  rw [HE.out, if_pos rfl] at hq
  by_cases hN0 : s.n = 0
  · rw [if_pos hN0] at hq
    obtain ⟨rfl, rfl⟩ := Prod.mk.injEq .. ▸ hq
    have t2 : (s.n == 0) = true := by rw [beq_iff_eq]; exact hN0
    have t7 : ((7 : Int) == 7) = true := rfl
    clear hN0 hq
    go_wp2_with fail
    go_ret
    exact ⟨rfl, (HX.out _ HB4.out).2.1⟩
  rw [if_neg hN0] at hq
  have t2 : (s.n == 0) = false := beq_eq_false_iff_ne.2 hN0
  have t6 : ((6 : Int) == 6) = true := rfl
  by_cases hr1 : r < 1
  · rw [if_pos (Or.inl hr1)] at hq
    obtain ⟨rfl, rfl⟩ := Prod.mk.injEq .. ▸ hq
    clear hN0 hq
    go_wp2_with fail
    go_ret
    exact ⟨rfl, (HX.out _ HB4.out).2.1⟩
  by_cases hr2 : s.n < r
  · rw [if_pos (Or.inr hr2)] at hq
    obtain ⟨rfl, rfl⟩ := Prod.mk.injEq .. ▸ hq
    clear hN0 hq
    go_wp2_with fail
    go_ret
    exact ⟨rfl, (HX.out _ HB4.out).2.1⟩
  rw [if_neg (by omega)] at hq
  obtain ⟨rfl, rfl⟩ := Prod.mk.injEq .. ▸ hq
  have HFND : Hid ((bestK s r (keptR s).length).1 = true) := Lib.hid (by
    have hpm : ((allR s).mergeSort (fun x y => decide (x ≤ y))).Perm (allR s) := List.mergeSort_perm _ _
    have hpw := Sort64.sorted_le (allR s)
    obtain ⟨i, hat⟩ : ∃ i, AtR s r ((allR s).mergeSort (fun x y => decide (x ≤ y))) i := exists_atR hpw
    have hip := atR_lt HWL.out hpm hpw (by omega) (by omega) hat
    rw [best_is hpm hpw hat (List.getElem?_eq_getElem hip)])
  generalize hQ : (bestK s r (keptR s).length).2 = Q at *
  have HQ := Lib.hid hQ
  have tq : (Q == Q) = true := by simp
  clear hN0 hq hQ
  go_wp2_with fail
  refine (Kept_any _ s _ (HX.out _ HB4.out).2.2 HWL.out).mono ?_
  rintro e w5 ⟨v5, rfl, hown5, hb5⟩
  have HB5 := Lib.hid (HB4.out.trans (hb5.mono HB4.out.size))
  have hns : Ns w5 v5 (keptR s) := own_sl hown5
  obtain ⟨m, hm⟩ : ∃ m, (keptR s).length = m := ⟨_, rfl⟩
  have HM := Lib.hid hm
  obtain ⟨ko, kc, rfl, hkc, hkc2, -⟩ := own_shape hown5
  have HNS := Lib.hid hns
  rw [hm] at hkc HNS ⊢
  clear d0 d1 d2 d3 d4 hb5 hown5 hns hm
  go_wp2_with fail
  go_loopw [12, 13, 83] (fun f b i wr => ∃ (j : Nat) (F : Bool) (B : Int), j ≤ m ∧ i = .int .i64 j ∧ f = .bool F ∧ b = .int .i64 B ∧ Hid (bestK s r j = (F, B)) ∧ Below w5.heap.size w5 wr) (fun _ _ i _ => m - (intOf i).toNat)
  case atStart => exact ⟨0, false, 0, Nat.zero_le _, rfl, rfl, rfl, Lib.hid rfl, Below.refl _ _⟩
  case round =>
    obtain ⟨j, F, B, hj, rfl, rfl, rfl, HBK, hbr⟩ := hrel
    have HBr := Lib.hid (HB5.out.trans (hbr.mono HB5.out.size))
    by_cases hlt : j < m
    · obtain ⟨v, hv⟩ : ∃ v, (keptR s)[j]? = some v := ⟨_, List.getElem?_eq_getElem (by rw [HM.out]; exact hlt)⟩
      obtain ⟨g, off, rfl, c0⟩ := (HNS.out.below hbr).at hv
      have HST := Lib.hid (best_step hv HBK.out)
      obtain ⟨⟨d0, d1, d2, d3, d4⟩, -⟩ := bx5 (HX.out _ HBr.out).1
      obtain ⟨Z, hZ⟩ : ∃ Z, wt s v = Z := ⟨_, rfl⟩
      have HZ := Lib.hid hZ
      rw [hZ] at HST
      clear hv hZ
      go_wp2_with fail
      refine (weightof_any _ s v _ (HX.out _ HBr.out).2.2 HWL.out).mono ?_
      rw [HZ.out]
      rintro e w6 ⟨rfl, hb6⟩
      have hb7 := hbr.trans (hb6.mono hbr.size)
      by_cases hrz : r ≤ Z
      · cases F with
        | false =>
          have HN : Hid (bestK s r (j + 1) = (true, v)) := Lib.hid (by rw [HST.out, if_pos ⟨hrz, Or.inl rfl⟩])
          go_wp2_with fail
          go_roundw
          case rel => exact ⟨j + 1, true, v, by omega, by go_num, rfl, rfl, HN, hb7⟩
          case measure => simp [intOf]; omega
        | true =>
          by_cases hvB : v < B
          · have HN : Hid (bestK s r (j + 1) = (true, v)) := Lib.hid (by rw [HST.out, if_pos ⟨hrz, Or.inr hvB⟩])
            go_wp2_with fail
            go_roundw
            case rel => exact ⟨j + 1, true, v, by omega, by go_num, rfl, rfl, HN, hb7⟩
            case measure => simp [intOf]; omega
          · have HN : Hid (bestK s r (j + 1) = (true, B)) := Lib.hid (by rw [HST.out, if_neg (by rintro ⟨_, h | h⟩; simp at h; exact hvB h)])
            go_wp2_with fail
            go_roundw
            case rel => exact ⟨j + 1, true, B, by omega, by go_num, rfl, rfl, HN, hb7⟩
            case measure => simp [intOf]; omega
      · have HN : Hid (bestK s r (j + 1) = (F, B)) := Lib.hid (by rw [HST.out, if_neg (fun h => hrz h.1)])
        go_wp2_with fail
        go_roundw
        case rel => exact ⟨j + 1, F, B, by omega, by go_num, rfl, rfl, HN, hb7⟩
        case measure => simp [intOf]; omega
    · have hjm : j = m := by omega
      subst hjm
      have hF : F = true := by have := HFND.out; rw [HM.out, HBK.out] at this; exact this
      have hB : B = Q := by have := HQ.out; rw [HM.out, HBK.out] at this; exact this
      subst hF hB
      go_wp2_with fail
      go_ret
      exact ⟨rfl, (HX.out _ HBr.out).2.1⟩
end Go.Proofs.Ytcljeedmiobepaa.RankAsks
