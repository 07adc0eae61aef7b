/-
  Ranks: the walks of Check and RankFault.
-/
import Derived.Test.YtcljeedmiobepaaRk1
namespace Go.Proofs.Ytcljeedmiobepaa.Rk
open Go.RowKit Go.Gh
set_option linter.unusedVariables false
section
variable {w : World} {B : Nat} {T : TypeId} {a b c d e : Value}
theorem bx5 (h : w.heap[B]? = some (.cells #[a, b, c, d, e] T (0, 0))) : (w.cell? ⟨B, 0, none⟩ = some a ∧ w.cell? ⟨B, 1, none⟩ = some b ∧ w.cell? ⟨B, 2, none⟩ = some c ∧ w.cell? ⟨B, 3, none⟩ = some d ∧ w.cell? ⟨B, 4, none⟩ = some e) ∧
    (w.frozen? ⟨B, 0, none⟩ = false ∧ w.frozen? ⟨B, 1, none⟩ = false ∧ w.frozen? ⟨B, 2, none⟩ = false ∧ w.frozen? ⟨B, 3, none⟩ = false ∧ w.frozen? ⟨B, 4, none⟩ = false) :=
  ⟨⟨(row_cell 0 _ h rfl).1, (row_cell 1 _ h rfl).1, (row_cell 2 _ h rfl).1, (row_cell 3 _ h rfl).1, (row_cell 4 _ h rfl).1⟩, ⟨(row_cell 0 a h rfl).2, (row_cell 1 b h rfl).2, (row_cell 2 c h rfl).2, (row_cell 3 d h rfl).2, (row_cell 4 e h rfl).2⟩⟩
end
theorem head_false {s : Rk} {H : Bool} (hH : headR s = H) (h : ¬ (2 ≤ s.k ∧ s.k ≤ 64 ∧ (s.tl.length : Int) < s.k ∧ s.lv.length ≤ 20 ∧ sortB s.tl = true ∧ 0 ≤ s.sl ∧ s.sl ≤ 1152921504606846976)) : H = false := by
  cases H with
  | false => rfl
  | true => exact absurd (headR_ok.1 hH) h
theorem head_true {s : Rk} {H : Bool} (hH : headR s = H) (h : 2 ≤ s.k ∧ s.k ≤ 64 ∧ (s.tl.length : Int) < s.k ∧ s.lv.length ≤ 20 ∧ sortB s.tl = true ∧ 0 ≤ s.sl ∧ s.sl ≤ 1152921504606846976) : H = true := by
  rw [← hH]
  exact headR_ok.2 h
/-- The sum goes on. -/
theorem sum_on {s : Rk} {H : Bool} {i : Nat} {l : List Int} (hH : headR s = H) (ht : H = true) (hi : i < s.lv.length) (hl : s.lv[i]? = some l) : wrap64 (s.k * 2 ^ min i 64) = s.k * 2 ^ i ∧ wrap64 (sumTo s i + s.k * 2 ^ i) = sumTo s i + s.k * 2 ^ i ∧ wrap64 (s.k * 2 ^ i * 2) = s.k * 2 ^ (i + 1) ∧ s.lv.length ≤ 20 ∧ 2 ≤ s.k := by
  obtain ⟨h1, h2, h3, h4, -⟩ := headR_ok.1 (hH.trans ht)
  have hp := pow_le (i := i) (by omega)
  have hm := mul_bnd (c := s.k) (p := 2 ^ i) (by omega) h2 (by omega) hp.2
  have hs := sumTo_bd (s := s) (by omega) h2 (by omega) i (by omega)
  have h5 : (i : Int) ≤ 20 := by omega
  rw [Nat.min_eq_left (by omega)]
  refine ⟨IntWalk.wrap64_in _ (by omega), IntWalk.wrap64_in _ (by omega), ?_, h4, h1⟩
  rw [IntWalk.wrap64_in _ (by omega), Int.pow_succ, Int.mul_assoc]
theorem rank_end {s : Rk} {H B : Bool} {L : Nat} {z : Int} (hH : headR s = H) (hL : s.lv.length = L) (hB : B = okTo H s.k s.lv L) (hz : H = true → z = sumTo s L) : rankF s = if B = true ∧ z = s.n then 0 else 4 := by
  unfold rankF wellR
  rw [hH, hL, ← hB]
  by_cases hb : B = true
  · have h1 := hz (okTo_head (hB.symm.trans hb))
    by_cases hn : z = s.n
    · rw [if_pos ⟨hb, h1.symm.trans hn⟩, if_pos ⟨hb, hn⟩]
    · rw [if_neg (fun h => hn (h1.trans h.2)), if_neg (fun h => hn h.2)]
  · rw [if_neg (fun h => hb h.1), if_neg (fun h => hb h.1)]
set_option maxHeartbeats 8000000 in
set_option maxRecDepth 100000 in
theorem rkcheck_any (v : Value) (s : Rk) (w : World) (hv : RkV w v s) :
    Calls Try.prog 97 #[v] w fun e w' => e = .returned (.int .i64 (rankF s)) ∧ Below w.heap.size w w' := by
  obtain ⟨t, u, rfl, ht, hu⟩ := hv
  obtain ⟨ao, c, rfl, hnc, hc, -⟩ := ht.shape
  obtain ⟨bo, d, rfl, hod, hd⟩ := hu.shape
  have HT := Lib.hid ht
  have HU := Lib.hid hu
  obtain ⟨n, hn⟩ : ∃ n, s.tl.length = n := ⟨_, rfl⟩
  obtain ⟨L, hL⟩ : ∃ n, s.lv.length = n := ⟨_, rfl⟩
  rw [hn] at HT hnc ⊢
  rw [hL] at HU hod ⊢
  obtain ⟨H, hH⟩ : ∃ H, headR s = H := ⟨_, rfl⟩
  have HN := Lib.hid hn
  have HL := Lib.hid hL
  have HH := Lib.hid hH
  obtain ⟨wA, hwA⟩ : ∃ wA, wA = w.alloc (Obj.cells #[.int .i64 s.k, .slice ao n c, .slice bo L d, .int .i64 s.n, .int .i64 s.sl] 141) := ⟨_, rfl⟩
  have hbA : Below w.heap.size w wA := by rw [hwA]; exact (Below.refl _ _).alloc (Nat.le_refl _) _
  have hbox : wA.heap[w.heap.size]? = some (.cells #[.int .i64 s.k, .slice ao n c, .slice bo L d, .int .i64 s.n, .int .i64 s.sl] 141 (0, 0)) := by rw [hwA]; exact heap_alloc_new w _
  have HW := Lib.hid hwA
  have HBA := Lib.hid hbA
  have HTA := Lib.hid (HT.out.below hbA)
  have HUA := Lib.hid (HU.out.below lvR_mono hbA)
  clear hn hL hH ht hu hwA hbA
  go_enter Try.func97, Try.ntmps97
  go_upto_region 1 with (fail)
  rw [← HW.out]
  obtain ⟨bx, hbx⟩ : ∃ bx, w.heap.size = bx := ⟨_, rfl⟩
  have HBX := Lib.hid hbx
  rw [hbx] at hbox ⊢
  have HBOX := Lib.hid hbox
  have hlt0 : bx < wA.heap.size := (Array.getElem?_eq_some_iff.1 hbox).1
  obtain ⟨⟨d0, d1, d2, d3, d4⟩, -⟩ := bx5 hbox
  clear hbx hbox
  go_upto_region 2 with (fail)
  go_cut [4] (fun x wx => x = .bool H ∧ Below wA.heap.size wA wx)
  case first =>
    by_cases h1 : 2 ≤ s.k
    case neg =>
      obtain rfl : H = false := head_false HH.out (fun h => by have := h.1; skip; omega)
      go_wp2_with fail
      go_meet
      exact ⟨rfl, Below.refl _ _⟩
    by_cases h2 : s.k ≤ 64
    case neg =>
      obtain rfl : H = false := head_false HH.out (fun h => by have := h.2.1; skip; omega)
      go_wp2_with fail
      go_meet
      exact ⟨rfl, Below.refl _ _⟩
    by_cases h3 : (n : Int) < s.k
    case neg =>
      obtain rfl : H = false := head_false HH.out (fun h => by have := h.2.2.1; rw [HN.out] at this; omega)
      go_wp2_with fail
      go_meet
      exact ⟨rfl, Below.refl _ _⟩
    by_cases h4 : L ≤ 20
    case neg =>
      obtain rfl : H = false := head_false HH.out (fun h => by have := h.2.2.2.1; rw [HL.out] at this; omega)
      go_wp2_with fail
      go_meet
      exact ⟨rfl, Below.refl _ _⟩
    obtain ⟨B5, hB5⟩ : ∃ B, sortB s.tl = B := ⟨_, rfl⟩
    have HB5 := Lib.hid hB5
    clear hB5
    go_wp2_with fail
    refine (issorted_any _ s.tl _ HTA.out).mono ?_
    rw [HB5.out]
    rintro e w1 ⟨rfl, q, rfl⟩
    cases B5 with
    | false =>
      obtain rfl : H = false := head_false HH.out (fun h => by have := h.2.2.2.2.1; rw [HB5.out] at this; simp at this)
      go_wp2_with fail
      go_meet
      exact ⟨rfl, below_drewN (Below.refl _ _) _⟩
    | true =>
      by_cases h6 : 0 ≤ s.sl
      case neg =>
        obtain rfl : H = false := head_false HH.out (fun h => by have := h.2.2.2.2.2.1; omega)
        go_wp2_with fail
        go_meet
        exact ⟨rfl, below_drewN (Below.refl _ _) _⟩
      by_cases h7 : s.sl ≤ 1152921504606846976
      case neg =>
        obtain rfl : H = false := head_false HH.out (fun h => by have := h.2.2.2.2.2.2; omega)
        go_wp2_with fail
        go_meet
        exact ⟨by first | rfl | exact congrArg Value.bool (decide_eq_false (by omega)), below_drewN (Below.refl _ _) _⟩
      obtain rfl : H = true := head_true HH.out ⟨h1, h2, by rw [HN.out]; exact h3, by rw [HL.out]; exact h4, HB5.out, h6, h7⟩
      go_wp2_with fail
      go_meet
      exact ⟨by first | rfl | exact congrArg Value.bool (decide_eq_true (by omega)), below_drewN (Below.refl _ _) _⟩
  obtain ⟨rfl, hbc⟩ := hcut
  obtain ⟨w2, rfl⟩ : ∃ x, x = wc := ⟨_, rfl⟩
  have HB2 := Lib.hid hbc
  have hbx2 := (hbc.block _ hlt0).trans HBOX.out
  clear d0 d1 d2 d3 d4 hbc
  obtain ⟨⟨d0, d1, d2, d3, d4⟩, -⟩ := bx5 hbx2
  clear hbx2
  go_wp2_with fail
  go_loopw [3, 4, 50] (fun y b i wr => ∃ (k : Nat) (z : Int) (B : Bool), k ≤ L ∧ i = .int .i64 k ∧ y = .int .i64 z ∧ b = .bool B ∧ Hid (B = okTo H s.k s.lv k) ∧ Hid (H = true → z = sumTo s k) ∧ Below wA.heap.size wA wr) (fun _ _ i _ => L - (intOf i).toNat)
  case atStart => exact ⟨0, n, H, Nat.zero_le _, rfl, rfl, rfl, Lib.hid rfl, Lib.hid (fun _ => by rw [sumTo, HN.out]), HB2.out⟩
  case round =>
    obtain ⟨k, z, B, hk, rfl, rfl, rfl, HOK, HSUM, hbr⟩ := hrel
    have hbx3 := (hbr.block _ hlt0).trans HBOX.out
    clear d0 d1 d2 d3 d4
    obtain ⟨⟨d0, d1, d2, d3, d4⟩, -⟩ := bx5 hbx3
    clear hbx3
    by_cases hlt : k < L
    · obtain ⟨l, hl⟩ : ∃ l, s.lv[k]? = some l := ⟨_, List.getElem?_eq_getElem (by rw [HL.out]; exact hlt)⟩
      obtain ⟨g, off, cs, rfl, ⟨t, rfl, hns⟩, _, hck⟩ := (HUA.out.below lvR_mono hbr).get hl
      have c0 := hck 0 _ rfl
      rw [Nat.add_zero, Nat.mul_one] at c0
      have HLV := Lib.hid hl
      obtain ⟨lo, lc, rfl, hlc, hlc2, -⟩ := hns.shape
      have HNS := Lib.hid hns
      have HST := Lib.hid (okTo_step (H := H) (K := s.k) hl)
      have HSS := Lib.hid (sumTo_step hl)
      obtain ⟨m, hm⟩ : ∃ m, l.length = m := ⟨_, rfl⟩
      have HM := Lib.hid hm
      have HNS2 : Hid (Ns wr (.slice lo m lc) l) := Lib.hid (by rw [← hm]; exact hns)
      rw [hm] at hlc c0
      clear hck hl hns hm HNS
      obtain ⟨B5, hB5⟩ : ∃ B, sortB l = B := ⟨_, rfl⟩
      have HB5 := Lib.hid hB5
      clear hB5
      by_cases hz : m = 0
      · subst hz
        have HS2 : Hid (H = true → z = sumTo s (k + 1)) := Lib.hid (fun ht => by rw [HSS.out, if_pos HM.out, HSUM.out ht]; simp)
        go_upto_region 8 with (fail)
        cases B with
        | false =>
          have HOK2 : Hid (false = okTo H s.k s.lv (k + 1)) := Lib.hid (by rw [HST.out, ← HOK.out]; rfl)
          go_wp2_with fail
          go_roundw
          case rel => exact ⟨k + 1, z, false, by omega, by go_num, rfl, rfl, HOK2, HS2, hbr⟩
          case measure => simp [intOf]; omega
        | true =>
          have ht := okTo_head HOK.out.symm
          obtain ⟨-, -, -, hL20, hK2⟩ := sum_on HH.out ht (by rw [HL.out]; exact hlt) HLV.out
          have hK : ¬ (0 : Int) = s.k := by omega
          have hK' : ((0 : Int) == s.k) = false := beq_eq_false_iff_ne.2 hK
          by_cases hLL : k + 1 < L
          · have hLi : (k : Int) < (L : Int) - 1 := by omega
            have HOK2 : Hid (B5 = okTo H s.k s.lv (k + 1)) := Lib.hid (by rw [HST.out, ← HOK.out, Bool.true_and]; unfold lvOk; rw [HM.out, HL.out, HB5.out, decide_eq_false (show ¬ ((0 : Nat) : Int) = s.k by omega), decide_eq_true hLL]; simp)
            go_wp2_with fail
            refine (issorted_any _ l _ HNS2.out).mono ?_
            rw [HB5.out]
            rintro e w3 ⟨rfl, q, rfl⟩
            go_wp2_with fail
            go_roundw
            case rel => exact ⟨k + 1, z, B5, by omega, by go_num, rfl, rfl, HOK2, HS2, below_drewN hbr _⟩
            case measure => simp [intOf]; omega
          · have hLi : ¬ (k : Int) < (L : Int) - 1 := by omega
            have HOK2 : Hid (false = okTo H s.k s.lv (k + 1)) := Lib.hid (by rw [HST.out, ← HOK.out, Bool.true_and]; unfold lvOk; rw [HM.out, HL.out, decide_eq_false (show ¬ ((0 : Nat) : Int) = s.k by omega), decide_eq_false hLL]; simp)
            go_wp2_with fail
            go_roundw
            case rel => exact ⟨k + 1, z, false, by omega, by go_num, rfl, rfl, HOK2, HS2, hbr⟩
            case measure => simp [intOf]; omega
      · have hz0 : 0 < m := by omega
        go_upto_region 8 with (fail)
        obtain ⟨z2, hz2⟩ : ∃ z2, wrap64 (z + wrap64 (s.k * 2 ^ min k 64)) = z2 := ⟨_, rfl⟩
        have HS2 : Hid (H = true → z2 = sumTo s (k + 1)) := Lib.hid (fun ht => by
          obtain ⟨e1, e2, -, -, -⟩ := sum_on HH.out ht (by rw [HL.out]; exact hlt) HLV.out
          rw [← hz2, HSS.out, if_neg (by rw [HM.out]; exact hz), HSUM.out ht, e1, e2])
        rw [hz2]
        clear hz2
        cases B with
        | false =>
          have HOK2 : Hid (false = okTo H s.k s.lv (k + 1)) := Lib.hid (by rw [HST.out, ← HOK.out]; rfl)
          go_wp2_with fail
          go_roundw
          case rel => exact ⟨k + 1, z2, false, by omega, by go_num, rfl, rfl, HOK2, HS2, hbr⟩
          case measure => simp [intOf]; omega
        | true =>
          by_cases hK : (m : Int) = s.k
          · have hK' : ((m : Int) == s.k) = true := by rw [beq_iff_eq]; exact hK
            have HOK2 : Hid (B5 = okTo H s.k s.lv (k + 1)) := Lib.hid (by rw [HST.out, ← HOK.out, Bool.true_and]; unfold lvOk; rw [HM.out, HB5.out, decide_eq_true hK]; simp)
            clear hK
            go_wp2_with fail
            refine (issorted_any _ l _ HNS2.out).mono ?_
            rw [HB5.out]
            rintro e w3 ⟨rfl, q, rfl⟩
            go_wp2_with fail
            go_roundw
            case rel => exact ⟨k + 1, z2, B5, by omega, by go_num, rfl, rfl, HOK2, HS2, below_drewN hbr _⟩
            case measure => simp [intOf]; omega
          · have hK' : ((m : Int) == s.k) = false := beq_eq_false_iff_ne.2 hK
            have HOK2 : Hid (false = okTo H s.k s.lv (k + 1)) := Lib.hid (by rw [HST.out, ← HOK.out, Bool.true_and]; unfold lvOk; rw [HM.out, decide_eq_false hK, decide_eq_false hz]; simp)
            have hm0 : ((m : Int) == 0) = false := beq_eq_false_iff_ne.2 (by omega)
            go_wp2_with fail
            go_roundw
            case rel => exact ⟨k + 1, z2, false, by omega, by go_num, rfl, rfl, HOK2, HS2, hbr⟩
            case measure => simp [intOf]; omega
    · have hkL : k = L := by omega
      subst hkL
      have HE := Lib.hid (rank_end HH.out HL.out HOK.out HSUM.out)
      have hBw := HBA.out.trans (hbr.mono HBA.out.size)
      cases B with
      | false =>
        have HE2 : Hid (rankF s = 4) := Lib.hid (by rw [HE.out, if_neg (fun h => by simp at h)])
        go_wp2_with fail
        go_ret
        exact ⟨by rw [HE2.out]; rfl, hBw⟩
      | true =>
        by_cases hzn : z = s.n
        · have HE2 : Hid (rankF s = 0) := Lib.hid (by rw [HE.out, if_pos ⟨rfl, hzn⟩])
          have hzn' : (z != s.n) = false := by rw [hzn]; simp
          clear hzn
          go_wp2_with fail
          go_ret
          exact ⟨by rw [HE2.out]; rfl, hBw⟩
        · have HE2 : Hid (rankF s = 4) := Lib.hid (by rw [HE.out, if_neg (fun h => hzn h.2)])
          have hzn' : (z != s.n) = true := by rw [bne_iff_ne]; exact hzn
          clear hzn
          go_wp2_with fail
          go_ret
          exact ⟨by rw [HE2.out]; rfl, hBw⟩

set_option maxHeartbeats 8000000 in
set_option maxRecDepth 100000 in
theorem rkfault_any (v : Value) (s : Rk) (w : World) (hv : RkV w v s) :
    Calls Try.prog 91 #[v] w fun e w' => e = .returned (.int .i64 (rankF s)) ∧ Below w.heap.size w w' := by
  obtain ⟨t, u, rfl, ht, hu⟩ := hv
  obtain ⟨ao, c, rfl, hnc, hc, -⟩ := ht.shape
  obtain ⟨bo, d, rfl, hod, hd⟩ := hu.shape
  have HT := Lib.hid ht
  have HU := Lib.hid hu
  obtain ⟨n, hn⟩ : ∃ n, s.tl.length = n := ⟨_, rfl⟩
  obtain ⟨L, hL⟩ : ∃ n, s.lv.length = n := ⟨_, rfl⟩
  rw [hn] at HT hnc ⊢
  rw [hL] at HU hod ⊢
  obtain ⟨H, hH⟩ : ∃ H, headR s = H := ⟨_, rfl⟩
  have HN := Lib.hid hn
  have HL := Lib.hid hL
  have HH := Lib.hid hH
  obtain ⟨wA, hwA⟩ : ∃ wA, wA = w.alloc (Obj.cells #[.int .i64 s.k, .slice ao n c, .slice bo L d, .int .i64 s.n, .int .i64 s.sl] 141) := ⟨_, rfl⟩
  have hbA : Below w.heap.size w wA := by rw [hwA]; exact (Below.refl _ _).alloc (Nat.le_refl _) _
  have hbox : wA.heap[w.heap.size]? = some (.cells #[.int .i64 s.k, .slice ao n c, .slice bo L d, .int .i64 s.n, .int .i64 s.sl] 141 (0, 0)) := by rw [hwA]; exact heap_alloc_new w _
  have HW := Lib.hid hwA
  have HBA := Lib.hid hbA
  have HTA := Lib.hid (HT.out.below hbA)
  have HUA := Lib.hid (HU.out.below lvR_mono hbA)
  clear hn hL hH ht hu hwA hbA
  go_enter Try.func91, Try.ntmps91
  go_upto_region 1 with (fail)
  rw [← HW.out]
  obtain ⟨bx, hbx⟩ : ∃ bx, w.heap.size = bx := ⟨_, rfl⟩
  have HBX := Lib.hid hbx
  rw [hbx] at hbox ⊢
  have HBOX := Lib.hid hbox
  have hlt0 : bx < wA.heap.size := (Array.getElem?_eq_some_iff.1 hbox).1
  obtain ⟨⟨d0, d1, d2, d3, d4⟩, -⟩ := bx5 hbox
  clear hbx hbox
  go_upto_region 1 with (fail)
  go_cut [3] (fun x wx => x = .bool H ∧ Below wA.heap.size wA wx)
  case first =>
    by_cases h1 : 2 ≤ s.k
    case neg =>
      obtain rfl : H = false := head_false HH.out (fun h => by have := h.1; skip; omega)
      go_wp2_with fail
      go_meet
      exact ⟨rfl, Below.refl _ _⟩
    by_cases h2 : s.k ≤ 64
    case neg =>
      obtain rfl : H = false := head_false HH.out (fun h => by have := h.2.1; skip; omega)
      go_wp2_with fail
      go_meet
      exact ⟨rfl, Below.refl _ _⟩
    by_cases h3 : (n : Int) < s.k
    case neg =>
      obtain rfl : H = false := head_false HH.out (fun h => by have := h.2.2.1; rw [HN.out] at this; omega)
      go_wp2_with fail
      go_meet
      exact ⟨rfl, Below.refl _ _⟩
    by_cases h4 : L ≤ 20
    case neg =>
      obtain rfl : H = false := head_false HH.out (fun h => by have := h.2.2.2.1; rw [HL.out] at this; omega)
      go_wp2_with fail
      go_meet
      exact ⟨rfl, Below.refl _ _⟩
    obtain ⟨B5, hB5⟩ : ∃ B, sortB s.tl = B := ⟨_, rfl⟩
    have HB5 := Lib.hid hB5
    clear hB5
    go_wp2_with fail
    refine (rising_any _ s.tl _ HTA.out).mono ?_
    rw [HB5.out]
    rintro e w1 ⟨rfl, q, rfl⟩
    cases B5 with
    | false =>
      obtain rfl : H = false := head_false HH.out (fun h => by have := h.2.2.2.2.1; rw [HB5.out] at this; simp at this)
      go_wp2_with fail
      go_meet
      exact ⟨rfl, below_drewN (Below.refl _ _) _⟩
    | true =>
      by_cases h6 : 0 ≤ s.sl
      case neg =>
        obtain rfl : H = false := head_false HH.out (fun h => by have := h.2.2.2.2.2.1; omega)
        go_wp2_with fail
        go_meet
        exact ⟨rfl, below_drewN (Below.refl _ _) _⟩
      by_cases h7 : s.sl ≤ 1152921504606846976
      case neg =>
        obtain rfl : H = false := head_false HH.out (fun h => by have := h.2.2.2.2.2.2; omega)
        go_wp2_with fail
        go_meet
        exact ⟨by first | rfl | exact congrArg Value.bool (decide_eq_false (by omega)), below_drewN (Below.refl _ _) _⟩
      obtain rfl : H = true := head_true HH.out ⟨h1, h2, by rw [HN.out]; exact h3, by rw [HL.out]; exact h4, HB5.out, h6, h7⟩
      go_wp2_with fail
      go_meet
      exact ⟨by first | rfl | exact congrArg Value.bool (decide_eq_true (by omega)), below_drewN (Below.refl _ _) _⟩
  obtain ⟨rfl, hbc⟩ := hcut
  obtain ⟨w2, rfl⟩ : ∃ x, x = wc := ⟨_, rfl⟩
  have HB2 := Lib.hid hbc
  have hbx2 := (hbc.block _ hlt0).trans HBOX.out
  clear d0 d1 d2 d3 d4 hbc
  obtain ⟨⟨d0, d1, d2, d3, d4⟩, -⟩ := bx5 hbx2
  clear hbx2
  go_wp2_with fail
  go_loopw [3, 4, 5, 53] (fun b y d i wr => ∃ (k : Nat) (z e : Int) (B : Bool), k ≤ L ∧ i = .int .i64 k ∧ y = .int .i64 z ∧ d = .int .i64 e ∧ b = .bool B ∧ Hid (B = okToR H s.k s.lv k) ∧ Hid (H = true → z = sumTo s k ∧ e = s.k * 2 ^ k) ∧ Below wA.heap.size wA wr) (fun _ _ _ i _ => L - (intOf i).toNat)
  case atStart => exact ⟨0, n, s.k, H, Nat.zero_le _, rfl, rfl, rfl, rfl, Lib.hid rfl, Lib.hid (fun _ => ⟨by rw [sumTo, HN.out], by simp⟩), HB2.out⟩
  case round =>
    obtain ⟨k, z, e, B, hk, rfl, rfl, rfl, rfl, HOK, HSUM, hbr⟩ := hrel
    have hbx3 := (hbr.block _ hlt0).trans HBOX.out
    have HB3 := Lib.hid hbx3
    clear d0 d1 d2 d3 d4
    obtain ⟨⟨d0, d1, d2, d3, d4⟩, -⟩ := bx5 hbx3
    have hltr : bx < wr.heap.size := (Array.getElem?_eq_some_iff.1 hbx3).1
    clear hbx3
    by_cases hlt : k < L
    · obtain ⟨l, hl⟩ : ∃ l, s.lv[k]? = some l := ⟨_, List.getElem?_eq_getElem (by rw [HL.out]; exact hlt)⟩
      obtain ⟨g, off, cs, rfl, ⟨t, rfl, hns⟩, _, hck⟩ := (HUA.out.below lvR_mono hbr).get hl
      have c0 := hck 0 _ rfl
      rw [Nat.add_zero, Nat.mul_one] at c0
      have HLV := Lib.hid hl
      obtain ⟨lo, lc, rfl, hlc, hlc2, -⟩ := hns.shape
      have HST := Lib.hid (okToR_step (H := H) (K := s.k) hl)
      have HSS := Lib.hid (sumTo_step hl)
      obtain ⟨m, hm⟩ : ∃ m, l.length = m := ⟨_, rfl⟩
      have HM := Lib.hid hm
      have HNS2 : Hid (Ns wr (.slice lo m lc) l) := Lib.hid (by rw [← hm]; exact hns)
      rw [hm] at hlc c0
      clear hck hl hns hm
      obtain ⟨B5, hB5⟩ : ∃ B, sortB l = B := ⟨_, rfl⟩
      have HB5 := Lib.hid hB5
      clear hB5
      obtain ⟨B2, hB2⟩ : ∃ B2, okToR H s.k s.lv (k + 1) = B2 := ⟨_, rfl⟩
      have HB2' := Lib.hid hB2
      clear hB2
      go_upto_region 7 with (fail)
      go_cut [3] (fun x wx => x = .bool B2 ∧ Below wr.heap.size wr wx)
      case first =>
        cases B with
        | false =>
          obtain rfl : B2 = false := by rw [← HB2'.out, HST.out, ← HOK.out]; rfl
          go_wp2_with fail
          go_meet
          exact ⟨rfl, Below.refl _ _⟩
        | true =>
          have h2 : B2 = lvOkR s.k L k l := by rw [← HB2'.out, HST.out, ← HOK.out, HL.out, Bool.true_and]
          unfold lvOkR at h2
          rw [HB5.out, HM.out] at h2
          have HE2 := Lib.hid h2
          clear h2
          go_wp2_with fail
          refine (rising_any _ l _ HNS2.out).mono ?_
          rw [HB5.out]
          rintro e w3 ⟨rfl, q, rfl⟩
          cases B5 with
          | false =>
            obtain rfl : B2 = false := by rw [HE2.out]; rfl
            go_wp2_with fail
            go_meet
            exact ⟨rfl, below_drewN (Below.refl _ _) _⟩
          | true =>
            by_cases hz : m = 0
            · subst hz
              by_cases hLL : k + 1 < L
              · obtain rfl : B2 = true := by rw [HE2.out, decide_eq_true hLL]; simp
                have hLi : (k : Int) + 1 < (L : Int) := by omega
                go_wp2_with fail
                go_meet
                exact ⟨rfl, below_drewN (Below.refl _ _) _⟩
              · obtain rfl : B2 = false := by rw [HE2.out, decide_eq_false hLL]; simp
                have hLi : ¬ (k : Int) + 1 < (L : Int) := by omega
                go_wp2_with fail
                go_meet
                exact ⟨by first | rfl | exact congrArg Value.bool (decide_eq_false (by omega)), below_drewN (Below.refl _ _) _⟩
            · have hz0 : 0 < m := by omega
              have hm0 : ((m : Int) == 0) = false := beq_eq_false_iff_ne.2 (by omega)
              by_cases hK : (m : Int) = s.k
              · obtain rfl : B2 = true := by rw [HE2.out, decide_eq_true hK, decide_eq_true hz0]; simp
                have hK' : ((m : Int) == s.k) = true := by rw [beq_iff_eq]; exact hK
                clear hK
                go_wp2_with fail
                go_meet
                exact ⟨rfl, below_drewN (Below.refl _ _) _⟩
              · obtain rfl : B2 = false := by rw [HE2.out, decide_eq_false hK, decide_eq_false hz]; simp
                have hK' : ((m : Int) == s.k) = false := beq_eq_false_iff_ne.2 hK
                go_wp2_with fail
                go_meet
                exact ⟨rfl, below_drewN (Below.refl _ _) _⟩
      obtain ⟨rfl, hbc⟩ := hcut
      have HR3 := Lib.hid (hbr.trans (hbc.mono hbr.size))
      have HOK2 : Hid (B2 = okToR H s.k s.lv (k + 1)) := Lib.hid HB2'.out.symm
      clear hbc d0 d1 d2 d3 d4 c0
      by_cases hz : m = 0
      · subst hz
        obtain ⟨e2, he2⟩ : ∃ e2, wrap64 (e * 2) = e2 := ⟨_, rfl⟩
        have HS2 : Hid (H = true → z = sumTo s (k + 1) ∧ e2 = s.k * 2 ^ (k + 1)) := Lib.hid (fun ht => by
          obtain ⟨-, -, e3, -, -⟩ := sum_on HH.out ht (by rw [HL.out]; exact hlt) HLV.out
          obtain ⟨h1, h2⟩ := HSUM.out ht
          exact ⟨by rw [HSS.out, if_pos HM.out, h1]; simp, by rw [← he2, h2, e3]⟩)
        have HE2 := Lib.hid he2
        clear he2
        go_wp2_with fail
        go_roundw
        case rel => exact ⟨k + 1, z, e2, B2, by omega, by go_num, rfl, by rw [← HE2.out], rfl, HOK2, HS2, HR3.out⟩
        case measure => simp [intOf]; omega
      · have hz0 : 0 < m := by omega
        obtain ⟨e2, he2⟩ : ∃ e2, wrap64 (e * 2) = e2 := ⟨_, rfl⟩
        obtain ⟨z2, hz2⟩ : ∃ z2, wrap64 (z + e) = z2 := ⟨_, rfl⟩
        have HS2 : Hid (H = true → z2 = sumTo s (k + 1) ∧ e2 = s.k * 2 ^ (k + 1)) := Lib.hid (fun ht => by
          obtain ⟨-, e4, e3, -, -⟩ := sum_on HH.out ht (by rw [HL.out]; exact hlt) HLV.out
          obtain ⟨h1, h2⟩ := HSUM.out ht
          exact ⟨by rw [← hz2, HSS.out, if_neg (by rw [HM.out]; exact hz), h1, h2, e4], by rw [← he2, h2, e3]⟩)
        have HE2 := Lib.hid he2
        have HZ2 := Lib.hid hz2
        clear he2 hz2
        go_wp2_with fail
        go_roundw
        case rel => exact ⟨k + 1, z2, e2, B2, by omega, by go_num, by rw [← HZ2.out], by rw [← HE2.out], rfl, HOK2, HS2, HR3.out⟩
        case measure => simp [intOf]; omega
    · have hkL : k = L := by omega
      subst hkL
      have hK2 : H = true → 2 ≤ s.k := fun ht => (headR_ok.1 (HH.out.trans ht)).1
      have HE := Lib.hid (rank_end HH.out HL.out (HOK.out.trans (okToR_eq hK2 k)) (fun ht => (HSUM.out ht).1))
      have hBw := HBA.out.trans (hbr.mono HBA.out.size)
      cases B with
      | false =>
        have HE2 : Hid (rankF s = 4) := Lib.hid (by rw [HE.out, if_neg (fun h => by simp at h)])
        go_wp2_with fail
        go_ret
        exact ⟨by rw [HE2.out]; rfl, hBw⟩
      | true =>
        by_cases hzn : z = s.n
        · have HE2 : Hid (rankF s = 0) := Lib.hid (by rw [HE.out, if_pos ⟨rfl, hzn⟩])
          have hzn' : (z != s.n) = false := by rw [hzn]; simp
          clear hzn
          go_wp2_with fail
          go_ret
          exact ⟨by rw [HE2.out]; rfl, hBw⟩
        · have HE2 : Hid (rankF s = 4) := Lib.hid (by rw [HE.out, if_neg (fun h => hzn h.2)])
          have hzn' : (z != s.n) = true := by rw [bne_iff_ne]; exact hzn
          clear hzn
          go_wp2_with fail
          go_ret
          exact ⟨by rw [HE2.out]; rfl, hBw⟩
end Go.Proofs.Ytcljeedmiobepaa.Rk
