/-
  The walk of MeasureSigns.
-/
import Derived.Test.YtbifhmbfmoeofaaDoorXor1
namespace Go.Proofs.YtbifhmbfmoeofaaDoor.Xor
open Go.RowKit Go.Gh Go.Proofs.YtbifhmbfmoeofaaDoor.Bits
set_option linter.unusedVariables false
theorem xor_nat (a b : Int) (ha : 0 ≤ a) (ha1 : a < 18446744073709551616) (hb : 0 ≤ b) (hb1 : b < 18446744073709551616) : ∃ x : Nat, bits .xor .u64 a b = (x : Int) ∧ x < 18446744073709551616 := by
  obtain ⟨p, rfl⟩ := Int.eq_ofNat_of_zero_le ha
  obtain ⟨q, rfl⟩ := Int.eq_ofNat_of_zero_le hb
  exact ⟨p ^^^ q, bits_xor_u64_nat p q (by omega) (by omega), Nat.xor_lt_two_pow (n := 64) (by omega) (by omega)⟩
theorem sbits_mid (s : List Bool) (a b : Nat) : (sbits s).extract a b = sbits ((s.drop a).take (b - a)) := by
  unfold sbits
  rw [ByteArray.extract_mk, List.map_take, List.map_drop]
theorem sx0 : (⟨#[48]⟩ : ByteArray) = sbits [false] := rfl
theorem sx10 : (⟨#[49, 48]⟩ : ByteArray) = sbits [true, false] := rfl
theorem sx11 : (⟨#[49, 49]⟩ : ByteArray) = sbits [true, true] := rfl
theorem put0 (s : List Bool) (ld tl : Int) : putX s ld tl 0 = (s ++ [false], ld, tl) := by unfold putX; rw [if_pos rfl]
theorem put10 {s : List Bool} {ld tl T : Int} (h : T ≠ 0) (hw : 0 ≤ ld ∧ ld ≤ leadF T ∧ tl ≤ tailF T) : putX s ld tl T = (s ++ [true, false] ++ midB T ld.toNat tl.toNat, ld, tl) := by unfold putX; rw [if_neg h, if_pos hw]
theorem put11 {s : List Bool} {ld tl T : Int} (h : T ≠ 0) (hw : ¬ (0 ≤ ld ∧ ld ≤ leadF T ∧ tl ≤ tailF T)) : putX s ld tl T = (s ++ [true, true] ++ signs (leadF T) 6 ++ signs (63 - leadF T - tailF T) 6 ++ midB T (leadF T) (tailF T), (leadF T : Int), (tailF T : Int)) := by unfold putX; rw [if_neg h, if_neg hw]
set_option maxHeartbeats 12000000 in
set_option maxRecDepth 100000 in
theorem measuresigns_any (v : Value) (n : Nat) (l : List Int) (w : World) (hs : Sl w 1 v n (l.map (Value.int .u64))) (hl : l.length = n) (hwf : ∀ z ∈ l, (Lit.int .u64 z).wf = true) (hn : n ≤ 1000) :
    Calls Tryd.prog 22 #[v] w fun e w' => e = .returned (.string (sbits (msTo l n).1)) ∧ Below w.heap.size w w' := by
  obtain ⟨ao, c, rfl, hnc, hc, _⟩ := hs.shape
  have HL := Lib.hid hl
  have HWF := Lib.hid hwf
  have hu0 : (0 : Int) ≤ n := by omega
  have hu1 : (n : Int) < 18446744073709551616 := by omega
  have h0 : sbits (signs (n : Int) 16) = sbits (msTo l 0).1 := by rw [ms_zero, hl]
  have H0 := Lib.hid h0
  have hsz0 : (sbits (signs (n : Int) 16)).size ≤ 80 := by rw [sbits_size, signs_len]; omega
  clear hl hwf h0
  go_enter Tryd.func22, Tryd.ntmps22
  go_wp2_with (go_at_call 38; refine (signs_any (n : Int) 16 hu0 hu1 (by omega) _).mono ?_; rintro e w1 ⟨rfl, rfl⟩)
  go_loopw [3, 4, 5, 17] (fun s ul ut i wr => ∃ (k : Nat) (S : ByteArray) (LD TL : Int), k ≤ n ∧ i = .int .i64 k ∧ s = .string S ∧ ul = .int .i64 LD ∧ ut = .int .i64 TL ∧ S.size ≤ 80 + 78 * k ∧ Hid (S = sbits (msTo l k).1) ∧ Hid ((msTo l k).2 = (LD, TL)) ∧ Hid (winOk LD TL) ∧ Below w.heap.size w wr) (fun _ _ _ i _ => n - (intOf i).toNat)
  case atStart => exact ⟨0, _, -1, -1, by omega, rfl, rfl, rfl, rfl, by omega, H0, Lib.hid rfl, Lib.hid (Or.inl ⟨rfl, rfl⟩), Below.refl _ _⟩
  case round =>
    obtain ⟨k, S, LD, TL, hk, rfl, rfl, rfl, rfl, hS1, HS, HW, HWIN, hbr⟩ := hrel
    by_cases hlt : k < n
    · obtain ⟨b, off, rfl, hck⟩ := (hs.below hbr).int (i := k) hlt
      have hk1 : k < l.length := by rw [HL.out]; exact hlt
      have hwk := wf_u64 (HWF.out (l.getD k 0) (by rw [List.getD_eq_getElem?_getD, List.getElem?_eq_getElem hk1]; exact List.getElem_mem _))
      obtain ⟨t, ht⟩ : ∃ t, l.getD k 0 = t := ⟨_, rfl⟩
      rw [ht] at hck hwk
      have HT := Lib.hid ht
      clear ht hk1
      by_cases h0 : k = 0
      · have HN : Hid (S ++ sbits (signs t 64) = sbits (msTo l (k + 1)).1) := by
          show _ = _
          have h := HS.out
          have h2 := HT.out
          subst h0
          rw [h, ms_first, ms_zero, h2, sbits_append]
        have HW2 : Hid ((msTo l (k + 1)).2 = (LD, TL)) := by
          show _ = _
          have h := HW.out
          subst h0
          rw [← h]; rfl
        have hsz : (sbits (signs t 64)).size = 64 := by rw [sbits_size, signs_len]
        have e0 : ((k : Int) == 0) = true := by rw [h0]; rfl
        have hk0 : k ≤ 0 := by omega
        clear h0
        go_wp2_with (go_at_call 38; refine (signs_any t 64 hwk.1 hwk.2 (by omega) _).mono ?_; rintro e w1 ⟨rfl, rfl⟩)
        go_roundw
        case rel => exact ⟨k + 1, _, LD, TL, by omega, by go_num, rfl, rfl, rfl, by rw [ByteArray.size_append]; omega, HN, HW2, HWIN, hbr⟩
        case measure => simp [intOf]; omega
      · obtain ⟨j, rfl⟩ : ∃ j, k = j + 1 := ⟨k - 1, by omega⟩
        clear h0 hu0 hu1 hsz0
        obtain ⟨b', off', hbo, hcj⟩ := (hs.below hbr).int (i := j) (by omega)
        simp only [Option.some.injEq, Addr.mk.injEq, and_true] at hbo
        obtain ⟨rfl, rfl⟩ := hbo
        obtain ⟨P, hP⟩ : ∃ t, l.getD j 0 = t := ⟨_, rfl⟩
        have hj1 : j < l.length := by rw [HL.out]; omega
        have hwj := wf_u64 (HWF.out (l.getD j 0) (by rw [List.getD_eq_getElem?_getD, List.getElem?_eq_getElem hj1]; exact List.getElem_mem _))
        rw [hP] at hcj hwj
        have HP := Lib.hid hP
        obtain ⟨x, hx, hxb⟩ := xor_nat t P hwk.1 hwk.2 hwj.1 hwj.2
        have HNX : Hid (msTo l (j + 1 + 1) = putX (msTo l (j + 1)).1 LD TL (x : Int)) := by
          show _ = _
          rw [ms_next, HT.out, hP, HW.out]
          unfold xorI
          rw [hx]
        clear hP hj1
        have e0 : (((j + 1 : Nat) : Int) == 0) = false := beq_eq_false_iff_ne.2 (by omega)
        have e0' : ((j : Int) + 1 == 0) = false := beq_eq_false_iff_ne.2 (by omega)
        have i0 : ((j + 1 : Nat) : Int) - 1 = (j : Int) := by omega
        obtain ⟨A, hA⟩ : ∃ A, leadF (x : Int) = A := ⟨_, rfl⟩
        obtain ⟨B, hB⟩ : ∃ B, tailF (x : Int) = B := ⟨_, rfl⟩
        have HA := Lib.hid hA
        have HB := Lib.hid hB
        have HA' : Hid (runF (signs (x : Int) 64) = A) := hA
        have HB' : Hid (runF (signs (x : Int) 64).reverse = B) := hB
        have hx0 : (0 : Int) ≤ x := by omega
        have hx1 : (x : Int) < 18446744073709551616 := by omega
        clear hA hB
        have HX := Lib.hid hx
        clear hx i0 hx0 hx1
        go_wp2_with fail
        rw [HX.out]
        refine (signs_any (x : Int) 64 (by omega) (by omega) (by decide) _).mono ?_
        rintro e w1 ⟨rfl, rfl⟩
        go_wp2_with fail
        refine (run_any (signs (x : Int) 64) (by rw [signs_len]; decide) _).mono ?_
        rw [HA'.out]
        rintro e w1 ⟨rfl, rfl⟩
        go_wp2_with fail
        refine (backward_any (signs (x : Int) 64) (by rw [signs_len]; decide) _).mono ?_
        rintro e w1 ⟨rfl, rfl⟩
        go_wp2_with fail
        refine (run_any (signs (x : Int) 64).reverse (by rw [List.length_reverse, signs_len]; decide) _).mono ?_
        rw [HB'.out]
        rintro e w1 ⟨rfl, rfl⟩
        clear HX HA' HB' hck hcj hwk hwj e0 e0' HT HP
        have hturn : (sbits (signs (x : Int) 64)).size = 64 := by rw [sbits_size, signs_len]
        by_cases hz : x = 0
        · have hA64 : A = 64 := by rw [← HA.out, hz]; exact lead_zero
          have HN : Hid (S ++ ⟨#[48]⟩ = sbits (msTo l (j + 1 + 1)).1) := by
            show _ = _
            rw [HNX.out, hz, sx0, HS.out, sbits_append]
            exact congrArg sbits (congrArg Prod.fst (put0 _ _ _)).symm
          have HW2 : Hid ((msTo l (j + 1 + 1)).2 = (LD, TL)) := by
            show _ = _
            rw [HNX.out, hz]
            exact congrArg Prod.snd (put0 _ _ _)
          have e64 : ((A : Int) == 64) = true := by rw [hA64]; rfl
          have hsz : (⟨#[48]⟩ : ByteArray).size = 1 := rfl
          clear hz hA64
          go_wp2_with fail
          go_roundw
          case rel => exact ⟨j + 1 + 1, _, LD, TL, by omega, by go_num, rfl, rfl, rfl, by simp only [ByteArray.size_append]; omega, HN, HW2, HWIN, hbr⟩
          case measure => simp [intOf]; omega
        · have hlt63 : A + B ≤ 63 := by rw [← HA.out, ← HB.out]; exact lead_tail hz hxb
          have hxne : (x : Int) ≠ 0 := by omega
          have e64 : ((A : Int) == 64) = false := beq_eq_false_iff_ne.2 (by omega)
          by_cases hw : 0 ≤ LD ∧ LD ≤ A ∧ TL ≤ B
          · obtain ⟨ld, rfl⟩ := Int.eq_ofNat_of_zero_le hw.1
            have hTL : 0 ≤ TL ∧ (ld : Int) + TL ≤ 63 := by
              rcases HWIN.out with h | h
              · omega
              · omega
            obtain ⟨tl, rfl⟩ := Int.eq_ofNat_of_zero_le hTL.1
            have hm1 : (ld : Int) ≤ 64 - (tl : Int) := by omega
            have hw2 : (ld : Int) ≤ A := hw.2.1
            have hw3 : (tl : Int) ≤ B := hw.2.2
            have HN : Hid (S ++ ⟨#[49, 48]⟩ ++ (sbits (signs (x : Int) 64)).extract ld (64 - tl) = sbits (msTo l (j + 1 + 1)).1) := by
              show _ = _
              rw [HNX.out, put10 hxne ⟨by omega, by rw [HA.out]; exact hw2, by rw [HB.out]; exact hw3⟩, sx10, sbits_mid, HS.out, sbits_append, sbits_append, mid_signs _ _ _ _ (by omega)]
              rfl
            have HW2 : Hid ((msTo l (j + 1 + 1)).2 = ((ld : Int), (tl : Int))) := by
              show _ = _
              rw [HNX.out, put10 hxne ⟨by omega, by rw [HA.out]; exact hw2, by rw [HB.out]; exact hw3⟩]
            have hse : ((sbits (signs (x : Int) 64)).extract ld (64 - tl)).size ≤ 64 := by rw [sbits_mid, sbits_size]; simp [signs_len]; omega
            have hsz : (⟨#[49, 48]⟩ : ByteArray).size = 2 := rfl
            clear hw
            go_wp2_with fail
            go_roundw
            case rel => exact ⟨j + 1 + 1, _, ld, tl, by omega, by go_num, rfl, rfl, rfl, by simp only [ByteArray.size_append]; omega, HN, HW2, HWIN, hbr⟩
            case measure => simp [intOf]; omega
          · have hnw : ¬ (0 ≤ LD ∧ LD ≤ leadF (x : Int) ∧ TL ≤ tailF (x : Int)) := by rw [HA.out, HB.out]; exact hw
            have HN : Hid (S ++ (⟨#[49, 49]⟩ ++ sbits (signs (A : Int) 6) ++ sbits (signs (63 - (A : Int) - B) 6)) ++ (sbits (signs (x : Int) 64)).extract A (64 - B) = sbits (msTo l (j + 1 + 1)).1) := by
              show _ = _
              rw [HNX.out, put11 hxne hnw, HA.out, HB.out, sx11, sbits_mid, HS.out]
              simp only [sbits_append]
              rw [mid_signs _ _ _ _ (by omega)]
              simp only [List.append_assoc]
              rfl
            have HW2 : Hid ((msTo l (j + 1 + 1)).2 = ((A : Int), (B : Int))) := by
              show _ = _
              rw [HNX.out, put11 hxne hnw, HA.out, HB.out]
            have HWIN2 : Hid (winOk (A : Int) (B : Int)) := Or.inr ⟨by omega, by omega, by omega⟩
            have hse : ((sbits (signs (x : Int) 64)).extract A (64 - B)).size ≤ 64 := by rw [sbits_mid, sbits_size]; simp [signs_len]; omega
            have hs1 : (sbits (signs (A : Int) 6)).size = 6 := by rw [sbits_size, signs_len]
            have hs2 : (sbits (signs (63 - (A : Int) - B) 6)).size = 6 := by rw [sbits_size, signs_len]
            have hsz : (⟨#[49, 49]⟩ : ByteArray).size = 2 := rfl
            have hm1 : (A : Int) ≤ 64 - (B : Int) := by omega
            have hcase : (LD = -1 ∧ TL = -1) ∨ (∃ ld tl : Nat, LD = ld ∧ TL = tl ∧ ¬ (ld : Int) ≤ A) ∨ (∃ ld tl : Nat, LD = ld ∧ TL = tl ∧ (ld : Int) ≤ A ∧ ¬ (tl : Int) ≤ B) := by
              rcases HWIN.out with h | h
              · exact Or.inl h
              · obtain ⟨ld, rfl⟩ := Int.eq_ofNat_of_zero_le h.1
                obtain ⟨tl, rfl⟩ := Int.eq_ofNat_of_zero_le h.2.1
                by_cases h1 : (ld : Int) ≤ A
                · exact Or.inr (Or.inr ⟨ld, tl, rfl, rfl, h1, fun h2 => hw ⟨h.1, h1, h2⟩⟩)
                · exact Or.inr (Or.inl ⟨ld, tl, rfl, rfl, h1⟩)
            clear hw hnw
            rcases hcase with ⟨rfl, rfl⟩ | ⟨ld, tl, rfl, rfl, hf⟩ | ⟨ld, tl, rfl, rfl, hf1, hf⟩
            all_goals
              go_wp2_with fail
              refine (signs_any (A : Int) 6 (by omega) (by omega) (by decide) _).mono ?_
              rintro e w1 ⟨rfl, rfl⟩
              go_wp2_with fail
              refine (signs_any (63 - (A : Int) - B) 6 (by omega) (by omega) (by decide) _).mono ?_
              rintro e w1 ⟨rfl, rfl⟩
              go_wp2_with fail
              go_roundw
              case rel => exact ⟨j + 1 + 1, _, A, B, by omega, by go_num, rfl, rfl, rfl, by simp only [ByteArray.size_append]; omega, HN, HW2, HWIN2, hbr⟩
              case measure => simp [intOf]; omega
    · obtain rfl : k = n := by omega
      have HE := HS.out
      go_wp2_with fail
      go_ret
      exact ⟨ret_str HS.out, hbr⟩
end Go.Proofs.YtbifhmbfmoeofaaDoor.Xor
