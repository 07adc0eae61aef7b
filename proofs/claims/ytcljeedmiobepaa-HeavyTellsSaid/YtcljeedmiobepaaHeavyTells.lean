/-
  The walk of the law HeavyTells.
-/
import Derived.Test.YtcljeedmiobepaaHv8
import Derived.Deep.RegionHeld3
namespace Go.Proofs.Ytcljeedmiobepaa.HeavyTells
open Go.RowKit Go.Gh Go.Proofs.Ytcljeedmiobepaa.Hv
set_option linter.unusedVariables false
theorem hv_shape {w : World} {v : Value} {s : Hv} (h : HvV w v s) : ∃ ao n c, v = .agg #[.int .i64 s.k, .slice ao n c, .int .i64 s.n, .int .i64 s.off] ∧ HvV w (.agg #[.int .i64 s.k, .slice ao n c, .int .i64 s.n, .int .i64 s.off]) s := by
  obtain ⟨t, rfl, hs⟩ := h
  obtain ⟨ao, c, rfl, _, _⟩ := hs.shape
  exact ⟨_, _, _, rfl, _, rfl, hs⟩
/-- What stands in memory behind the three calls. -/
structure St (w : World) (b7 b9 : Nat) (x4 x7 x9 : Obj) (wx : World) : Prop where
  q4 : wx.heap[w.heap.size]? = some x4
  q7 : wx.heap[b7]? = some x7
  q9 : wx.heap[b9]? = some x9
  bel : Below w.heap.size w wx
theorem St.below {w : World} {b7 b9 : Nat} {x4 x7 x9 : Obj} {wx wy : World} (h : St w b7 b9 x4 x7 x9 wx) (hb : Below wx.heap.size wx wy) : St w b7 b9 x4 x7 x9 wy :=
  ⟨(hb.block _ (Array.getElem?_eq_some_iff.1 h.q4).1).trans h.q4, (hb.block _ (Array.getElem?_eq_some_iff.1 h.q7).1).trans h.q7, (hb.block _ (Array.getElem?_eq_some_iff.1 h.q9).1).trans h.q9, h.bel.trans (hb.mono h.bel.size)⟩
theorem add_fault {s : Hv} {key : ByteArray} {bad : Int} (h : heavyF s = bad) (hz : bad ≠ 0) : addR s key = (hv0, bad) ∧ countR s key = (0, bad) := by
  unfold addR countR
  rw [h, if_neg hz, if_neg hz]
  exact ⟨rfl, rfl⟩
theorem add_large {s : Hv} {key : ByteArray} (h : heavyF s = 0) (hk : 40 < key.size) : addR s key = (hv0, 2) ∧ countR s key = (0, 2) := by
  unfold addR countR
  rw [h, if_pos rfl, if_pos rfl, if_pos (Or.inl hk), if_pos hk]
  exact ⟨rfl, rfl⟩
theorem add_fine {s : Hv} {key : ByteArray} (h : heavyF s = 0) (hk : ¬ 40 < key.size) : addR s key = (if s.n = 1000000000 then (hv0, 2) else (tallyF s key, 0)) ∧ countR s key = (cntIn key s.l, 0) := by
  unfold addR countR
  rw [h, if_pos rfl, if_pos rfl, if_neg hk]
  by_cases hn : s.n = 1000000000
  · rw [if_pos (Or.inr hn), if_pos hn]; exact ⟨rfl, rfl⟩
  · rw [if_neg (by rintro (h1 | h1) <;> first | exact hk h1 | exact hn h1), if_neg hn]; exact ⟨rfl, rfl⟩
set_option maxHeartbeats 8000000 in
set_option maxRecDepth 100000 in
theorem walk (v0 v1 v2 : Value) (w : World) (h0 : IsInt .i64 w v0) (h1 : IsHv w v1) (h2 : IsString w v2) :
    Calls Try.prog 7 #[v0, v1, v2] w fun e w' => e = .returned (.bool true) ∧ Below w.heap.size w w' := by
  obtain ⟨k, rfl, -⟩ := h0
  obtain ⟨s, hv⟩ := h1
  obtain ⟨key, rfl, -⟩ := h2
  obtain ⟨ao, n, c, rfl, hv⟩ := hv_shape hv
  obtain ⟨⟨sa, ea⟩, hEM⟩ : ∃ r, emptyF k = r := ⟨_, rfl⟩
  obtain ⟨⟨sb, eb⟩, hAD⟩ : ∃ r, addR s key = r := ⟨_, rfl⟩
  obtain ⟨⟨z, ec⟩, hCN⟩ : ∃ r, countR s key = r := ⟨_, rfl⟩
  obtain ⟨bad, hBD⟩ : ∃ r, heavyF s = r := ⟨_, rfl⟩
  have HV := Lib.hid hv
  have HEM := Lib.hid hEM
  have HAD := Lib.hid hAD
  have HCN := Lib.hid hCN
  have HBD := Lib.hid hBD
  clear hv hEM hAD hCN hBD
  go_enter Try.func7, Try.ntmps7
  go_upto_region 1 with (fail)
  refine wp_abs (fun wA => wA.heap[w.heap.size]? = some (.cells #[.int .i64 s.k, .slice ao n c, .int .i64 s.n, .int .i64 s.off] 86 (0, 0)) ∧ Below w.heap.size w wA) ⟨heap_alloc_new w _, (Below.refl _ _).alloc (Nat.le_refl _) _⟩ ?_
  rintro wA ⟨q0, hB0⟩
  have hlt0 : w.heap.size < wA.heap.size := (Array.getElem?_eq_some_iff.1 q0).1
  go_wp2_with fail
  refine (empty_any k _).mono ?_
  rw [HEM.out]
  rintro e w1 ⟨va, rfl, hva, hb1⟩
  obtain ⟨aoa, na, ca, rfl, hva⟩ := hv_shape hva
  have hB1 := hB0.trans (hb1.mono hB0.size)
  have q1 := (hb1.block _ hlt0).trans q0
  have hlt1 : w.heap.size < w1.heap.size := Nat.lt_of_lt_of_le hlt0 hb1.size
  clear q0 hb1 hB0 hlt0
  go_upto_region 2 with (fail)
  refine wp_abs (fun wx => wx.heap[w.heap.size]? = some (.cells #[.int .i64 s.k, .slice ao n c, .int .i64 s.n, .int .i64 s.off] 86 (0, 0)) ∧ wx.heap[w1.heap.size]? = some (.cells #[.int .i64 sa.k, .slice aoa na ca, .int .i64 sa.n, .int .i64 sa.off] 86 (0, 0)) ∧ Below w.heap.size w wx ∧ HvV wx (.agg #[.int .i64 sa.k, .slice aoa na ca, .int .i64 sa.n, .int .i64 sa.off]) sa)
    ⟨(Below.heap_alloc _ _ _ hlt1).trans q1, heap_alloc_new w1 _, hB1.alloc hB1.size _, hva.below ((Below.refl _ w1).alloc (Nat.le_refl _) _)⟩ ?_
  obtain ⟨b7, hb7⟩ : ∃ b, w1.heap.size = b := ⟨_, rfl⟩
  rw [hb7] at hlt1 ⊢
  clear q1 hva hB1 hb7
  rintro w2 ⟨q4, q7, hB2, hva⟩
  have HVA2 := Lib.hid hva
  have HV2 := Lib.hid (HV.out.below hB2)
  clear hva
  have hl4 : w.heap.size < w2.heap.size := (Array.getElem?_eq_some_iff.1 q4).1
  have hl7 : b7 < w2.heap.size := (Array.getElem?_eq_some_iff.1 q7).1
  obtain ⟨⟨x0, x1, x2, x3⟩, -⟩ := bx4 q4
  go_wp2_with fail
  refine (add_any _ s key _ HV2.out).mono ?_
  rw [HAD.out]
  rintro e w3 ⟨vb, rfl, hvb, hb3⟩
  obtain ⟨aob, nb, cb, rfl, hvb⟩ := hv_shape hvb
  have hB3 := hB2.trans (hb3.mono hB2.size)
  have r4 := (hb3.block _ hl4).trans q4
  have r7 := (hb3.block _ hl7).trans q7
  have HVA3 := Lib.hid (HVA2.out.below hb3)
  have hl4 : w.heap.size < w3.heap.size := (Array.getElem?_eq_some_iff.1 r4).1
  have hl7 : b7 < w3.heap.size := (Array.getElem?_eq_some_iff.1 r7).1
  clear q4 q7 hb3 hB2 x0 x1 x2 x3 HVA2
  go_upto_region 3 with (fail)
  refine wp_abs (fun wx => St w b7 w3.heap.size (.cells #[.int .i64 s.k, .slice ao n c, .int .i64 s.n, .int .i64 s.off] 86 (0, 0)) (.cells #[.int .i64 sa.k, .slice aoa na ca, .int .i64 sa.n, .int .i64 sa.off] 86 (0, 0)) (.cells #[.int .i64 sb.k, .slice aob nb cb, .int .i64 sb.n, .int .i64 sb.off] 86 (0, 0)) wx ∧ HvV wx (.agg #[.int .i64 sa.k, .slice aoa na ca, .int .i64 sa.n, .int .i64 sa.off]) sa ∧ HvV wx (.agg #[.int .i64 sb.k, .slice aob nb cb, .int .i64 sb.n, .int .i64 sb.off]) sb)
    ⟨⟨(Below.heap_alloc _ _ _ hl4).trans r4, (Below.heap_alloc _ _ _ hl7).trans r7, heap_alloc_new w3 _, hB3.alloc hB3.size _⟩, HVA3.out.below ((Below.refl _ w3).alloc (Nat.le_refl _) _), hvb.below ((Below.refl _ w3).alloc (Nat.le_refl _) _)⟩ ?_
  obtain ⟨b9, hb9⟩ : ∃ b, w3.heap.size = b := ⟨_, rfl⟩
  rw [hb9] at ⊢
  clear r4 r7 hvb hB3 hb9 HVA3 hl4 hl7
  rintro w4 ⟨hst, hva, hvb⟩
  have HVA4 := Lib.hid hva
  have HVB4 := Lib.hid hvb
  have HST4 := Lib.hid hst
  obtain ⟨⟨x0, x1, x2, x3⟩, -⟩ := bx4 hst.q4
  clear hva hvb hst HV2
  go_wp2_with fail
  refine (count_any _ s key _ (HV.out.below HST4.out.bel)).mono ?_
  rw [HCN.out]
  rintro e w5 ⟨rfl, hb5⟩
  have HST5 := Lib.hid (HST4.out.below hb5)
  have HVA5 := Lib.hid (HVA4.out.below hb5)
  have HVB5 := Lib.hid (HVB4.out.below hb5)
  clear hb5 x0 x1 x2 x3 HST4 HVA4 HVB4
  obtain ⟨K, hK⟩ : ∃ K, decide (k < 1 ∨ 64 < k) = K := ⟨_, rfl⟩
  have HK := Lib.hid hK
  clear hK
  go_upto_region 4 with (fail)
  go_cut [36] (fun t wx => t = .bool K ∧ wx = w5)
  case first =>
    by_cases hk1 : k < 1
    · obtain rfl : K = true := by rw [← HK.out]; exact decide_eq_true (Or.inl hk1)
      go_wp2_with fail
      go_meet
      exact ⟨rfl, rfl⟩
    · by_cases hk2 : 64 < k
      · obtain rfl : K = true := by rw [← HK.out]; exact decide_eq_true (Or.inr hk2)
        go_wp2_with fail
        go_meet
        exact ⟨rfl, rfl⟩
      · obtain rfl : K = false := by rw [← HK.out]; exact decide_eq_false (by omega)
        go_wp2_with fail
        go_meet
        exact ⟨rfl, rfl⟩
  obtain ⟨rfl, rfl⟩ := hcut
  obtain ⟨w5, rfl⟩ : ∃ x, x = wc := ⟨_, rfl⟩
  go_upto_if 36 with (fail)
  go_cut [] (fun wx => Below w5.heap.size w5 wx)
  case first =>
    obtain ⟨⟨x0, x1, x2, x3⟩, -⟩ := bx4 HST5.out.q7
    cases K with
    | true =>
      have he : emptyF k = (hv0, 1) := if_pos (of_decide_eq_true HK.out)
      rw [HEM.out] at he
      obtain ⟨rfl, rfl⟩ := Prod.mk.injEq .. ▸ he
      have HZ := Lib.hid (hvV_zero w5)
      clear he
      go_wp2_with fail
      refine (sameheavy_any _ _ hv0 _ HVA5.out HZ.out).mono ?_
      rintro e w6 ⟨rfl, hb6⟩
      go_wp2_with fail
      go_meet
      exact hb6
    | false =>
      have he : emptyF k = (⟨k, [], 0, 0⟩, 0) := if_neg (of_decide_eq_false HK.out)
      rw [HEM.out] at he
      obtain ⟨rfl, rfl⟩ := Prod.mk.injEq .. ▸ he
      have HZ : Hid (HvV w5 (.agg #[.int .i64 k, .slice none 0 0, .int .i64 0, .int .i64 0]) ⟨k, [], 0, 0⟩) := Lib.hid ⟨_, rfl, Sp.nil⟩
      clear he
      go_wp2_with fail
      refine (sameheavy_any _ _ ⟨k, [], 0, 0⟩ _ HVA5.out HZ.out).mono ?_
      rintro e w6 ⟨rfl, hb6⟩
      go_wp2_with fail
      go_meet
      exact hb6
  obtain ⟨w6, rfl⟩ : ∃ x, x = wc := ⟨_, rfl⟩
  have HST6 := Lib.hid (HST5.out.below hcut)
  have HVB6 := Lib.hid (HVB5.out.below hcut)
  clear hcut HST5 HVB5 HVA5 HEM
  obtain ⟨⟨x0, x1, x2, x3⟩, -⟩ := bx4 HST6.out.q4
  go_wp2_with fail
  refine (hvfault_any _ s _ (HV.out.below HST6.out.bel)).mono ?_
  rw [HBD.out]
  rintro e w7 ⟨rfl, hb7⟩
  have HST7 := Lib.hid (HST6.out.below hb7)
  have HVB7 := Lib.hid (HVB6.out.below hb7)
  clear hb7 HST6 HVB6 x0 x1 x2 x3
  obtain ⟨⟨x0, x1, x2, x3⟩, -⟩ := bx4 HST7.out.q4
  have tb : (bad != bad) = false := by simp
  have tbb : (bad == bad) = true := by simp
  go_wp2_with fail
  refine (hvcheck_any _ s _ (HV.out.below HST7.out.bel)).mono ?_
  rw [HBD.out]
  rintro e w8 ⟨rfl, hb8⟩
  have HST8 := Lib.hid (HST7.out.below hb8)
  have HVB8 := Lib.hid (HVB7.out.below hb8)
  clear hb8 HST7 HVB7 x0 x1 x2 x3
  obtain ⟨⟨x0, x1, x2, x3⟩, -⟩ := bx4 HST8.out.q4
  obtain ⟨⟨y0, y1, y2, y3⟩, -⟩ := bx4 HST8.out.q9
  have HZ := Lib.hid (hvV_zero w8)
  by_cases hz : bad = 0
  case neg =>
    have t1 : (bad == 0) = false := beq_eq_false_iff_ne.2 hz
    have t2 : (bad != 0) = true := by rw [bne_iff_ne]; exact hz
    obtain ⟨h1, h2⟩ := add_fault (key := key) HBD.out hz
    rw [HAD.out] at h1
    rw [HCN.out] at h2
    obtain ⟨rfl, rfl⟩ := Prod.mk.injEq .. ▸ h1
    obtain ⟨rfl, rfl⟩ := Prod.mk.injEq .. ▸ h2
    clear hz h1 h2
    go_wp2_with fail
    refine (sameheavy_any _ _ hv0 _ HVB8.out HZ.out).mono ?_
    rintro e w9 ⟨rfl, hb9⟩
    go_wp2_with fail
    go_ret
    exact ⟨rfl, (HST8.out.below hb9).bel⟩
  subst hz
  have t1 : ((0 : Int) == 0) = true := rfl
  have t2 : ((2 : Int) != 0) = true := rfl
  have t3 : ((2 : Int) == 2) = true := rfl
  have t4 : ((0 : Int) != 0) = false := rfl
  by_cases hks : 40 < key.size
  · obtain ⟨h1, h2⟩ := add_large (key := key) HBD.out hks
    rw [HAD.out] at h1
    rw [HCN.out] at h2
    obtain ⟨rfl, rfl⟩ := Prod.mk.injEq .. ▸ h1
    obtain ⟨rfl, rfl⟩ := Prod.mk.injEq .. ▸ h2
    clear h1 h2
    go_wp2_with fail
    refine (sameheavy_any _ _ hv0 _ HVB8.out HZ.out).mono ?_
    rintro e w9 ⟨rfl, hb9⟩
    go_wp2_with fail
    go_ret
    exact ⟨rfl, (HST8.out.below hb9).bel⟩
  obtain ⟨h1, h2⟩ := add_fine (key := key) HBD.out hks
  rw [HAD.out] at h1
  rw [HCN.out] at h2
  obtain ⟨rfl, rfl⟩ := Prod.mk.injEq .. ▸ h2
  have HAD2 := Lib.hid h1
  have tz : (cntIn key s.l != cntIn key s.l) = false := by simp
  have hok := heavy_ok HBD.out
  have HOK := Lib.hid hok
  obtain ⟨t, ht, hsp⟩ := (HV.out.below HST8.out.bel)
  obtain rfl : t = .slice ao n c := by simp at ht; exact ht.symm
  have HSP := Lib.hid hsp
  have HSH := Lib.hid (short_of hok)
  generalize hzz : cntIn key s.l = zz at *
  have HZZ := Lib.hid hzz
  clear h1 h2 hok ht hsp hzz
  go_wp2_with fail
  refine (countin_any _ key s.l _ HSP.out (by omega) HSH.out).mono ?_
  rw [HZZ.out]
  rintro e w9 ⟨rfl, hb9⟩
  have HST9 := Lib.hid (HST8.out.below hb9)
  have HVB9 := Lib.hid (HVB8.out.below hb9)
  have HZ9 := Lib.hid (hvV_zero w9)
  clear hb9 x0 x1 x2 x3 y0 y1 y2 y3 HST8 HVB8 HZ
  obtain ⟨⟨x0, x1, x2, x3⟩, -⟩ := bx4 HST9.out.q4
  obtain ⟨⟨y0, y1, y2, y3⟩, -⟩ := bx4 HST9.out.q9
  have h1 := HAD2.out
  by_cases hn : s.n = 1000000000
  · rw [if_pos hn] at h1
    obtain ⟨rfl, rfl⟩ := Prod.mk.injEq .. ▸ h1
    have t5 : (s.n == 1000000000) = true := by rw [beq_iff_eq]; exact hn
    clear h1 hn
    go_wp2_with fail
    refine (sameheavy_any _ _ hv0 _ HVB9.out HZ9.out).mono ?_
    rintro e w10 ⟨rfl, hb10⟩
    go_wp2_with fail
    go_ret
    exact ⟨rfl, (HST9.out.below hb10).bel⟩
  rw [if_neg hn] at h1
  obtain ⟨rfl, rfl⟩ := Prod.mk.injEq .. ▸ h1
  have t5 : (s.n == 1000000000) = false := beq_eq_false_iff_ne.2 hn
  have HN := Lib.hid hn
  have HVS : Hid (∀ W, Below w9.heap.size w9 W → HvV W (.agg #[.int .i64 s.k, .slice ao n c, .int .i64 s.n, .int .i64 s.off]) s) := Lib.hid (fun W h => HV.out.below (HST9.out.below h).bel)
  have HVB : Hid (∀ W, Below w9.heap.size w9 W → HvV W (.agg #[.int .i64 (tallyF s key).k, .slice aob nb cb, .int .i64 (tallyF s key).n, .int .i64 (tallyF s key).off]) (tallyF s key)) := Lib.hid (fun W h => HVB9.out.below h)
  have HBX : Hid (∀ W, Below w9.heap.size w9 W → (W.cell? ⟨w.heap.size, 0, none⟩ = some (.int .i64 s.k) ∧ W.cell? ⟨w.heap.size, 1, none⟩ = some (.slice ao n c) ∧ W.cell? ⟨w.heap.size, 2, none⟩ = some (.int .i64 s.n) ∧ W.cell? ⟨w.heap.size, 3, none⟩ = some (.int .i64 s.off) ∧ W.cell? ⟨b9, 0, none⟩ = some (.int .i64 (tallyF s key).k) ∧ W.cell? ⟨b9, 1, none⟩ = some (.slice aob nb cb) ∧ W.cell? ⟨b9, 2, none⟩ = some (.int .i64 (tallyF s key).n) ∧ W.cell? ⟨b9, 3, none⟩ = some (.int .i64 (tallyF s key).off))) := Lib.hid (fun W h => by
    have h' := HST9.out.below h
    obtain ⟨⟨a0, a1, a2, a3⟩, -⟩ := bx4 h'.q4
    obtain ⟨⟨b0, b1, b2, b3⟩, -⟩ := bx4 h'.q9
    exact ⟨a0, a1, a2, a3, b0, b1, b2, b3⟩)
  have HD : Hid (Below w9.heap.size w9 w9.drew) := Lib.hid (Below.refl _ _).drew
  have hks2 : key.size ≤ 40 := by omega
  clear h1 hn HVB9
  go_upto_region 20 with (fail)
  clear x0 x1 x2 x3 y0 y1 y2 y3
  have z0 := HBX.out _ HD.out
  go_region_held3 (fun w' => w'.cell? ⟨w.heap.size, 0, none⟩ = some (.int .i64 s.k) ∧ w'.cell? ⟨w.heap.size, 1, none⟩ = some (.slice ao n c) ∧ w'.cell? ⟨w.heap.size, 2, none⟩ = some (.int .i64 s.n) ∧ w'.cell? ⟨w.heap.size, 3, none⟩ = some (.int .i64 s.off) ∧ w'.cell? ⟨b9, 0, none⟩ = some (.int .i64 (tallyF s key).k) ∧ w'.cell? ⟨b9, 1, none⟩ = some (.slice aob nb cb) ∧ w'.cell? ⟨b9, 2, none⟩ = some (.int .i64 (tallyF s key).n) ∧ w'.cell? ⟨b9, 3, none⟩ = some (.int .i64 (tallyF s key).off)) (first | (with_reducible exact z2) | (with_reducible exact z1) | (with_reducible exact z0) | go_keep) (first
    | (go_at_call 56; refine (tallied_any _ s key _ (HVS.out _ HD.out) HOK.out hks2 HN.out).mono ?_; rintro e w10 ⟨vt, rfl, hvt, hb10⟩; have HVT := Lib.hid hvt; have HD1 : Hid (Below w9.heap.size w9 w10) := Lib.hid (HD.out.trans (hb10.mono HD.out.size)); have z1 := HBX.out _ HD1.out; clear hb10 hvt)
    | (go_at_call 52; refine (sameheavy_any _ _ (tallyF s key) _ (HVB.out _ HD1.out) HVT.out).mono ?_; rintro e w11 ⟨rfl, hb11⟩; have HD2 : Hid (Below w9.heap.size w9 w11) := Lib.hid (HD1.out.trans (hb11.mono HD1.out.size)); have z2 := HBX.out _ HD2.out; clear hb11))
  all_goals
    go_wp2_with fail
    go_ret
    exact ⟨rfl, (HST9.out.below HD2.out).bel⟩
end Go.Proofs.Ytcljeedmiobepaa.HeavyTells
