/-
  The walks of delta's fits and of TimeSigns.
-/
import Derived.Test.YtbifhmbfmoeofaaDoorDeltaLaw
import Derived.Test.YtbifhmbfmoeofaaDoorBits3
import Derived.Test.YtbifhmbfmoeofaaDoorLib2
import Derived.IntWalk
namespace Go.Proofs.YtbifhmbfmoeofaaDoor.Delta
open Go.RowKit Go.Gh Go.Proofs.YtbifhmbfmoeofaaDoor.Bits
set_option linter.unusedVariables false

theorem fits0 (c : Int) (w : World) : Calls Tryd.prog 36 #[.int .i64 c, .int .i64 0] w fun e w' => e = .returned (.bool (decide (fitN c 0))) ∧ w' = w := by
  by_cases h : c = 0
  · have HF : Hid (decide (fitN c 0) = true) := decide_eq_true h
    have e1 : (c == 0) = true := by rw [h]; rfl
    clear h
    go_enter Tryd.func36, Tryd.ntmps36
    go_wp2_with fail
    go_ret
    exact ⟨ret_bool HF.out.symm, rfl⟩
  · have HF : Hid (decide (fitN c 0) = false) := decide_eq_false h
    have e1 : (c == 0) = false := beq_eq_false_iff_ne.2 h
    clear h
    go_enter Tryd.func36, Tryd.ntmps36
    go_wp2_with fail
    go_ret
    exact ⟨ret_bool HF.out.symm, rfl⟩
theorem fits7 (c : Int) (h0 : -9223372036854775808 ≤ c) (h1 : c < 9223372036854775808) (w : World) : Calls Tryd.prog 36 #[.int .i64 c, .int .i64 7] w fun e w' => e = .returned (.bool (decide (fitN c 1))) ∧ w' = w := by
  have HE : fitN c 1 = (-64 ≤ c ∧ c ≤ 63) := rfl
  have HF : Hid (decide (fitN c 1) = (wrap64 (c * 144115188075855872) / 144115188075855872 == c)) := by
    show _ = _
    rw [Bool.eq_iff_iff, decide_eq_true_iff, beq_iff_eq]
    rw [HE]
    unfold wrap64
    omega
  clear h0 h1 HE
  go_enter Tryd.func36, Tryd.ntmps36
  go_wp2_with fail
  go_ret
  exact ⟨ret_bool HF.out.symm, rfl⟩
theorem fits9 (c : Int) (h0 : -9223372036854775808 ≤ c) (h1 : c < 9223372036854775808) (w : World) : Calls Tryd.prog 36 #[.int .i64 c, .int .i64 9] w fun e w' => e = .returned (.bool (decide (fitN c 2))) ∧ w' = w := by
  have HE : fitN c 2 = (-256 ≤ c ∧ c ≤ 255) := rfl
  have HF : Hid (decide (fitN c 2) = (wrap64 (c * 36028797018963968) / 36028797018963968 == c)) := by
    show _ = _
    rw [Bool.eq_iff_iff, decide_eq_true_iff, beq_iff_eq]
    rw [HE]
    unfold wrap64
    omega
  clear h0 h1 HE
  go_enter Tryd.func36, Tryd.ntmps36
  go_wp2_with fail
  go_ret
  exact ⟨ret_bool HF.out.symm, rfl⟩
theorem fits12 (c : Int) (h0 : -9223372036854775808 ≤ c) (h1 : c < 9223372036854775808) (w : World) : Calls Tryd.prog 36 #[.int .i64 c, .int .i64 12] w fun e w' => e = .returned (.bool (decide (fitN c 3))) ∧ w' = w := by
  have HE : fitN c 3 = (-2048 ≤ c ∧ c ≤ 2047) := rfl
  have HF : Hid (decide (fitN c 3) = (wrap64 (c * 4503599627370496) / 4503599627370496 == c)) := by
    show _ = _
    rw [Bool.eq_iff_iff, decide_eq_true_iff, beq_iff_eq]
    rw [HE]
    unfold wrap64
    omega
  clear h0 h1 HE
  go_enter Tryd.func36, Tryd.ntmps36
  go_wp2_with fail
  go_ret
  exact ⟨ret_bool HF.out.symm, rfl⟩
theorem fits64 (c : Int) (h0 : -9223372036854775808 ≤ c) (h1 : c < 9223372036854775808) (w : World) : Calls Tryd.prog 36 #[.int .i64 c, .int .i64 64] w fun e w' => e = .returned (.bool (decide (fitN c 4))) ∧ w' = w := by
  have HF : Hid (decide (fitN c 4) = true) := decide_eq_true trivial
  have HW : wrap64 c = c := by unfold wrap64; omega
  have e1 : (c == c) = true := by simp
  clear h0 h1
  go_enter Tryd.func36, Tryd.ntmps36
  go_wp2_with fail
  go_ret
  exact ⟨ret_bool (by first | exact HF.out.symm | (rw [HF.out]; simp [HW])), rfl⟩
theorem sb0 : sbits [false] = ⟨#[48]⟩ := rfl
theorem sb1 : sbits [true, false] = ⟨#[49, 48]⟩ := rfl
theorem sb2 : sbits [true, true, false] = ⟨#[49, 49, 48]⟩ := rfl
theorem sb3 : sbits [true, true, true, false] = ⟨#[49, 49, 49, 48]⟩ := rfl
theorem sb4 : sbits [true, true, true, true] = ⟨#[49, 49, 49, 49]⟩ := rfl
theorem wI_bd (c : Int) : -9223372036854775808 ≤ wI c ∧ wI c < 9223372036854775808 := by
  unfold wI; rw [IntWalk.i64_left]; unfold wrap64; omega
theorem ch0 {c : Int} (h : c = 0) : chBits c = [false] := if_pos h
theorem ch1 {c : Int} (h0 : ¬ c = 0) (h1 : -64 ≤ c ∧ c ≤ 63) : chBits c = [true, false] ++ signs (wU c) 7 := by unfold chBits; rw [if_neg h0, if_pos h1]
theorem ch2 {c : Int} (h0 : ¬ c = 0) (h1 : ¬ (-64 ≤ c ∧ c ≤ 63)) (h2 : -256 ≤ c ∧ c ≤ 255) : chBits c = [true, true, false] ++ signs (wU c) 9 := by unfold chBits; rw [if_neg h0, if_neg h1, if_pos h2]
theorem ch3 {c : Int} (h0 : ¬ c = 0) (h1 : ¬ (-64 ≤ c ∧ c ≤ 63)) (h2 : ¬ (-256 ≤ c ∧ c ≤ 255)) (h3 : -2048 ≤ c ∧ c ≤ 2047) : chBits c = [true, true, true, false] ++ signs (wU c) 12 := by unfold chBits; rw [if_neg h0, if_neg h1, if_neg h2, if_pos h3]
theorem ch4 {c : Int} (h0 : ¬ c = 0) (h1 : ¬ (-64 ≤ c ∧ c ≤ 63)) (h2 : ¬ (-256 ≤ c ∧ c ≤ 255)) (h3 : ¬ (-2048 ≤ c ∧ c ≤ 2047)) : chBits c = [true, true, true, true] ++ signs (wU c) 64 := by unfold chBits; rw [if_neg h0, if_neg h1, if_neg h2, if_neg h3]
set_option maxHeartbeats 12000000 in
set_option maxRecDepth 100000 in
theorem timesigns_any (v : Value) (n : Nat) (l : List Int) (w : World) (hs : Sl w 1 v n (l.map (Value.int .i64))) (hl : l.length = n) (hwf : ∀ z ∈ l, (Lit.int .i64 z).wf = true) (hn : n ≤ 1000) :
    Calls Tryd.prog 20 #[v] w fun e w' => e = .returned (.string (sbits (tsTo l n))) ∧ Below w.heap.size w w' := by
  obtain ⟨ao, c, rfl, hnc, hc, _⟩ := hs.shape
  have HL := Lib.hid hl
  have HWF := Lib.hid hwf
  have hu : IntKind.u64.wrap (n : Int) = (n : Int) := by rw [IntKind.wrap_u64]; omega
  have hu0 : (0 : Int) ≤ n := by omega
  have hu1 : (n : Int) < 18446744073709551616 := by omega
  have h0 : sbits (signs (n : Int) 16) = sbits (tsTo l 0) := by rw [ts_zero, hl]
  have H0 := Lib.hid h0
  have hsz0 : (sbits (signs (n : Int) 16)).size ≤ 80 := by rw [sbits_size, signs_len]; omega
  clear hl hwf h0
  go_enter Tryd.func20, Tryd.ntmps20
  go_wp2_with (go_at_call 38; refine (signs_any (n : Int) 16 hu0 hu1 (by omega) _).mono ?_; rintro e w1 ⟨rfl, rfl⟩)
  go_loopw [3, 14] (fun s i wr => ∃ (k : Nat) (S : ByteArray), k ≤ n ∧ i = .int .i64 k ∧ s = .string S ∧ S.size ≤ 80 + 68 * k ∧ Hid (S = sbits (tsTo l k)) ∧ Below w.heap.size w wr) (fun _ i _ => n - (intOf i).toNat)
  case atStart => exact ⟨0, _, by omega, rfl, rfl, by omega, H0, Below.refl _ _⟩
  case round =>
    obtain ⟨k, S, hk, rfl, rfl, hS1, HS, hbr⟩ := hrel
    by_cases hlt : k < n
    · obtain ⟨b, off, rfl, hck⟩ := (hs.below hbr).int (i := k) hlt
      have hk1 : k < l.length := by rw [HL.out]; exact hlt
      have hwk := wf_i64 (HWF.out (l.getD k 0) (by rw [List.getD_eq_getElem?_getD, List.getElem?_eq_getElem hk1]; exact List.getElem_mem _))
      obtain ⟨t, ht⟩ : ∃ t, l.getD k 0 = t := ⟨_, rfl⟩
      rw [ht] at hck hwk
      have HT := Lib.hid ht
      clear ht hk1
      by_cases h0 : k = 0
      · have HN : Hid (S ++ sbits (signs (wU t) 64) = sbits (tsTo l (k + 1))) := by
          show _ = _
          have h := HS.out
          have h2 := HT.out
          subst h0
          rw [h, ts_first, h2, sbits_append]
        have hsz : (sbits (signs (wU t) 64)).size = 64 := by rw [sbits_size, signs_len]
        have e0 : ((k : Int) == 0) = true := by rw [h0]; rfl
        have hut : IntKind.u64.wrap t = wU t := rfl
        have hk0 : k ≤ 0 := by omega
        clear h0
        go_wp2_with (go_at_call 38; refine (signs_any (wU t) 64 (wU_bd t).1 (wU_bd t).2 (by omega) _).mono ?_; rintro e w1 ⟨rfl, rfl⟩)
        go_roundw
        case rel => exact ⟨k + 1, _, by omega, by go_num, rfl, by rw [ByteArray.size_append]; omega, HN, hbr⟩
        case measure => simp [intOf]; omega
      · obtain ⟨j, rfl⟩ : ∃ j, k = j + 1 := ⟨k - 1, by omega⟩
        clear h0 hu hu0 hu1 hsz0
        obtain ⟨b', off', hbo, hcj⟩ := (hs.below hbr).int (i := j) (by omega)
        simp only [Option.some.injEq, Addr.mk.injEq, and_true] at hbo
        obtain ⟨rfl, rfl⟩ := hbo
        obtain ⟨P, hP⟩ : ∃ t, l.getD j 0 = t := ⟨_, rfl⟩
        rw [hP] at hcj
        have HP := Lib.hid hP
        clear hP
        have e0 : (((j + 1 : Nat) : Int) == 0) = false := beq_eq_false_iff_ne.2 (by omega)
        have e0' : ((j : Int) + 1 == 0) = false := beq_eq_false_iff_ne.2 (by omega)
        have i0 : ((j + 1 : Nat) : Int) - 1 = (j : Int) := by omega
        have i1 : IntKind.i64.wrap ((j : Int) + 1 - 1) = (j : Int) := by rw [IntWalk.i64_in _ (by omega)]; omega
        have i6 : IntKind.i64.wrap (j : Int) = (j : Int) := IntWalk.i64_in _ (by omega)
        by_cases hj0 : j = 0
        · have hg : decide ((1 : Int) < (j : Int) + 1) = false := decide_eq_false (by omega)
          obtain ⟨C, hC⟩ : ∃ C, wrap64 (wrap64 (t - P) - 0) = C := ⟨_, rfl⟩
          have hC' : wrap64 (wrap64 (t - P)) = C := by rw [← hC, Int.sub_zero]
          have HCH : Hid (chAt l (j + 1) = C) := by
            show _ = _
            unfold chAt stepAt wI
            rw [if_pos (by omega), HT.out, show j + 1 - 1 = j by omega, HP.out, IntWalk.i64_left, IntWalk.i64_left]
            exact hC
          clear hj0
          have hsplit : C = 0 ∨ (-64 ≤ C ∧ C ≤ 63 ∧ ¬ C = 0) ∨ (-256 ≤ C ∧ C < -64) ∨ (63 < C ∧ C ≤ 255) ∨ (-2048 ≤ C ∧ C < -256) ∨ (255 < C ∧ C ≤ 2047) ∨ C < -2048 ∨ 2047 < C := by omega
          go_upto_region 10 with (fail)
          go_cut [7] (fun cv wx => cv = .int .i64 C ∧ wx = wr)
          case first =>
            go_wp2_with fail
            go_meet
            exact ⟨by first | rfl | (rw [hC]) | (rw [hC']) | simp [hC'] , rfl⟩
          obtain ⟨rfl, hwx⟩ := hcut
          subst hwx
          clear hC hC' i0 i1 i6 e0 e0' hg hck hcj hwk
          rcases hsplit with h | h | h | h | h | h | h | h
          · have HN : Hid (S ++ ⟨#[48]⟩ = sbits (tsTo l (j + 1 + 1))) := by
              show _ = _
              rw [ts_next, HCH.out, ch0 h, ← sbits_append, sb0, HS.out]
            have z0 : (C == 0) = true := by rw [h]; rfl
            have hsz : (⟨#[48]⟩ : ByteArray).size = 1 := rfl
            clear h
            go_wp2_with fail
            go_roundw
            case rel => exact ⟨j + 1 + 1, _, by omega, by go_num, rfl, by simp only [ByteArray.size_append]; omega, HN, hbr⟩
            case measure => simp [intOf]; omega
          · have HN : Hid (S ++ (sbits [true, false] ++ sbits (signs (wU C) 7)) = sbits (tsTo l (j + 1 + 1))) := by
              show _ = _
              rw [ts_next, HCH.out, ch1 (by omega) (by omega), ← sbits_append, ← sbits_append, HS.out]
            rw [sb1] at HN
            have z0 : (C == 0) = false := beq_eq_false_iff_ne.2 (by omega)
            have hsz : (sbits (signs (wU C) 7)).size = 7 := by rw [sbits_size, signs_len]
            have hsy : (⟨#[49, 48]⟩ : ByteArray).size = 2 := rfl
            go_wp2_with (go_at_call 38; refine (signs_any (wU C) 7 (wU_bd C).1 (wU_bd C).2 (by omega) _).mono ?_; rintro e w1 ⟨rfl, rfl⟩)
            go_roundw
            case rel => exact ⟨j + 1 + 1, _, by omega, by go_num, rfl, by simp only [ByteArray.size_append]; omega, HN, hbr⟩
            case measure => simp [intOf]; omega
          · have HN : Hid (S ++ (sbits [true, true, false] ++ sbits (signs (wU C) 9)) = sbits (tsTo l (j + 1 + 1))) := by
              show _ = _
              rw [ts_next, HCH.out, ch2 (by omega) (by omega) (by omega), ← sbits_append, ← sbits_append, HS.out]
            rw [sb2] at HN
            have z0 : (C == 0) = false := beq_eq_false_iff_ne.2 (by omega)
            have hsz : (sbits (signs (wU C) 9)).size = 9 := by rw [sbits_size, signs_len]
            have hsy : (⟨#[49, 49, 48]⟩ : ByteArray).size = 3 := rfl
            go_wp2_with (go_at_call 38; refine (signs_any (wU C) 9 (wU_bd C).1 (wU_bd C).2 (by omega) _).mono ?_; rintro e w1 ⟨rfl, rfl⟩)
            go_roundw
            case rel => exact ⟨j + 1 + 1, _, by omega, by go_num, rfl, by simp only [ByteArray.size_append]; omega, HN, hbr⟩
            case measure => simp [intOf]; omega
          · have HN : Hid (S ++ (sbits [true, true, false] ++ sbits (signs (wU C) 9)) = sbits (tsTo l (j + 1 + 1))) := by
              show _ = _
              rw [ts_next, HCH.out, ch2 (by omega) (by omega) (by omega), ← sbits_append, ← sbits_append, HS.out]
            rw [sb2] at HN
            have z0 : (C == 0) = false := beq_eq_false_iff_ne.2 (by omega)
            have hsz : (sbits (signs (wU C) 9)).size = 9 := by rw [sbits_size, signs_len]
            have hsy : (⟨#[49, 49, 48]⟩ : ByteArray).size = 3 := rfl
            have hU : wU C = C := by unfold wU; rw [IntKind.wrap_u64]; omega
            rw [hU] at HN hsz
            go_wp2_with (go_at_call 38; refine (signs_any C 9 (by omega) (by omega) (by omega) _).mono ?_; rintro e w1 ⟨rfl, rfl⟩)
            go_roundw
            case rel => exact ⟨j + 1 + 1, _, by omega, by go_num, rfl, by simp only [ByteArray.size_append]; omega, HN, hbr⟩
            case measure => simp [intOf]; omega
          · have HN : Hid (S ++ (sbits [true, true, true, false] ++ sbits (signs (wU C) 12)) = sbits (tsTo l (j + 1 + 1))) := by
              show _ = _
              rw [ts_next, HCH.out, ch3 (by omega) (by omega) (by omega) (by omega), ← sbits_append, ← sbits_append, HS.out]
            rw [sb3] at HN
            have z0 : (C == 0) = false := beq_eq_false_iff_ne.2 (by omega)
            have hsz : (sbits (signs (wU C) 12)).size = 12 := by rw [sbits_size, signs_len]
            have hsy : (⟨#[49, 49, 49, 48]⟩ : ByteArray).size = 4 := rfl
            go_wp2_with (go_at_call 38; refine (signs_any (wU C) 12 (wU_bd C).1 (wU_bd C).2 (by omega) _).mono ?_; rintro e w1 ⟨rfl, rfl⟩)
            go_roundw
            case rel => exact ⟨j + 1 + 1, _, by omega, by go_num, rfl, by simp only [ByteArray.size_append]; omega, HN, hbr⟩
            case measure => simp [intOf]; omega
          · have HN : Hid (S ++ (sbits [true, true, true, false] ++ sbits (signs (wU C) 12)) = sbits (tsTo l (j + 1 + 1))) := by
              show _ = _
              rw [ts_next, HCH.out, ch3 (by omega) (by omega) (by omega) (by omega), ← sbits_append, ← sbits_append, HS.out]
            rw [sb3] at HN
            have z0 : (C == 0) = false := beq_eq_false_iff_ne.2 (by omega)
            have hsz : (sbits (signs (wU C) 12)).size = 12 := by rw [sbits_size, signs_len]
            have hsy : (⟨#[49, 49, 49, 48]⟩ : ByteArray).size = 4 := rfl
            have hU : wU C = C := by unfold wU; rw [IntKind.wrap_u64]; omega
            rw [hU] at HN hsz
            go_wp2_with (go_at_call 38; refine (signs_any C 12 (by omega) (by omega) (by omega) _).mono ?_; rintro e w1 ⟨rfl, rfl⟩)
            go_roundw
            case rel => exact ⟨j + 1 + 1, _, by omega, by go_num, rfl, by simp only [ByteArray.size_append]; omega, HN, hbr⟩
            case measure => simp [intOf]; omega
          · have HN : Hid (S ++ (sbits [true, true, true, true] ++ sbits (signs (wU C) 64)) = sbits (tsTo l (j + 1 + 1))) := by
              show _ = _
              rw [ts_next, HCH.out, ch4 (by omega) (by omega) (by omega) (by omega), ← sbits_append, ← sbits_append, HS.out]
            rw [sb4] at HN
            have z0 : (C == 0) = false := beq_eq_false_iff_ne.2 (by omega)
            have hsz : (sbits (signs (wU C) 64)).size = 64 := by rw [sbits_size, signs_len]
            have hsy : (⟨#[49, 49, 49, 49]⟩ : ByteArray).size = 4 := rfl
            go_wp2_with (go_at_call 38; refine (signs_any (wU C) 64 (wU_bd C).1 (wU_bd C).2 (by omega) _).mono ?_; rintro e w1 ⟨rfl, rfl⟩)
            go_roundw
            case rel => exact ⟨j + 1 + 1, _, by omega, by go_num, rfl, by simp only [ByteArray.size_append]; omega, HN, hbr⟩
            case measure => simp [intOf]; omega
          · have HN : Hid (S ++ (sbits [true, true, true, true] ++ sbits (signs (wU C) 64)) = sbits (tsTo l (j + 1 + 1))) := by
              show _ = _
              rw [ts_next, HCH.out, ch4 (by omega) (by omega) (by omega) (by omega), ← sbits_append, ← sbits_append, HS.out]
            rw [sb4] at HN
            have z0 : (C == 0) = false := beq_eq_false_iff_ne.2 (by omega)
            have hsz : (sbits (signs (wU C) 64)).size = 64 := by rw [sbits_size, signs_len]
            have hsy : (⟨#[49, 49, 49, 49]⟩ : ByteArray).size = 4 := rfl
            go_wp2_with (go_at_call 38; refine (signs_any (wU C) 64 (wU_bd C).1 (wU_bd C).2 (by omega) _).mono ?_; rintro e w1 ⟨rfl, rfl⟩)
            go_roundw
            case rel => exact ⟨j + 1 + 1, _, by omega, by go_num, rfl, by simp only [ByteArray.size_append]; omega, HN, hbr⟩
            case measure => simp [intOf]; omega
        · obtain ⟨i, rfl⟩ : ∃ i, j = i + 1 := ⟨j - 1, by omega⟩
          clear hj0
          obtain ⟨b', off', hbo, hci⟩ := (hs.below hbr).int (i := i) (by omega)
          simp only [Option.some.injEq, Addr.mk.injEq, and_true] at hbo
          obtain ⟨rfl, rfl⟩ := hbo
          obtain ⟨O, hO⟩ : ∃ t, l.getD i 0 = t := ⟨_, rfl⟩
          rw [hO] at hci
          have HO := Lib.hid hO
          clear hO
          have hg : decide ((1 : Int) < (i : Int) + 1 + 1) = true := decide_eq_true (by omega)
          have j0 : ((i + 1 + 1 : Nat) : Int) - 2 = (i : Int) := by omega
          have j1 : IntKind.i64.wrap ((i : Int) + 1 + 1 - 1) = (i : Int) + 1 := by rw [IntWalk.i64_in _ (by omega)]; omega
          have j2 : IntKind.i64.wrap ((i : Int) + 1 + 1 - 2) = (i : Int) := by rw [IntWalk.i64_in _ (by omega)]; omega
          have j3 : ((i : Int) + 1).toNat = i + 1 := by omega
          have j4 : (i : Int) + 1 < n := by omega
          have j5 : 0 ≤ (i : Int) + 1 := by omega
          have j6 : (i : Int) < n := by omega
          obtain ⟨A, hA⟩ : ∃ A, wrap64 (P - O) = A := ⟨_, rfl⟩
          have hA' : IntKind.i64.wrap (P - O) = A := by rw [IntWalk.i64_left]; exact hA
          obtain ⟨C, hC⟩ : ∃ C, wrap64 (wrap64 (t - P) - A) = C := ⟨_, rfl⟩
          have HCH : Hid (chAt l (i + 1 + 1) = C) := by
            show _ = _
            unfold chAt stepAt wI
            rw [if_neg (by omega), HT.out, show i + 1 + 1 - 1 = i + 1 by omega, show i + 1 + 1 - 2 = i by omega, HP.out, HO.out, hA', IntWalk.i64_left, IntWalk.i64_left]
            exact hC
          have hsplit : C = 0 ∨ (-64 ≤ C ∧ C ≤ 63 ∧ ¬ C = 0) ∨ (-256 ≤ C ∧ C < -64) ∨ (63 < C ∧ C ≤ 255) ∨ (-2048 ≤ C ∧ C < -256) ∨ (255 < C ∧ C ≤ 2047) ∨ C < -2048 ∨ 2047 < C := by omega
          go_wp2_with fail
          go_quiet (fail)
          go_upto_region 10 with (fail)
          go_cut [7] (fun cv wx => cv = .int .i64 C ∧ wx = wr.drewN nq)
          case first =>
            go_wp2_with fail
            go_meet
            exact ⟨by first | rfl | (rw [hC]) | (rw [hC']) | simp [hC'] , rfl⟩
          obtain ⟨rfl, hwx⟩ := hcut
          subst hwx
          clear hC hA hA' i0 i1 i6 e0 e0' hg hck hcj hci hwk j0 j1 j2 j3 j4 j5 j6
          rcases hsplit with h | h | h | h | h | h | h | h
          · have HN : Hid (S ++ ⟨#[48]⟩ = sbits (tsTo l (i + 1 + 1 + 1))) := by
              show _ = _
              rw [ts_next, HCH.out, ch0 h, ← sbits_append, sb0, HS.out]
            have z0 : (C == 0) = true := by rw [h]; rfl
            have hsz : (⟨#[48]⟩ : ByteArray).size = 1 := rfl
            clear h
            go_wp2_with fail
            go_roundw
            case rel => exact ⟨i + 1 + 1 + 1, _, by omega, by go_num, rfl, by simp only [ByteArray.size_append]; omega, HN, below_drewN hbr _⟩
            case measure => simp [intOf]; omega
          · have HN : Hid (S ++ (sbits [true, false] ++ sbits (signs (wU C) 7)) = sbits (tsTo l (i + 1 + 1 + 1))) := by
              show _ = _
              rw [ts_next, HCH.out, ch1 (by omega) (by omega), ← sbits_append, ← sbits_append, HS.out]
            rw [sb1] at HN
            have z0 : (C == 0) = false := beq_eq_false_iff_ne.2 (by omega)
            have hsz : (sbits (signs (wU C) 7)).size = 7 := by rw [sbits_size, signs_len]
            have hsy : (⟨#[49, 48]⟩ : ByteArray).size = 2 := rfl
            go_wp2_with (go_at_call 38; refine (signs_any (wU C) 7 (wU_bd C).1 (wU_bd C).2 (by omega) _).mono ?_; rintro e w1 ⟨rfl, rfl⟩)
            go_roundw
            case rel => exact ⟨i + 1 + 1 + 1, _, by omega, by go_num, rfl, by simp only [ByteArray.size_append]; omega, HN, below_drewN hbr _⟩
            case measure => simp [intOf]; omega
          · have HN : Hid (S ++ (sbits [true, true, false] ++ sbits (signs (wU C) 9)) = sbits (tsTo l (i + 1 + 1 + 1))) := by
              show _ = _
              rw [ts_next, HCH.out, ch2 (by omega) (by omega) (by omega), ← sbits_append, ← sbits_append, HS.out]
            rw [sb2] at HN
            have z0 : (C == 0) = false := beq_eq_false_iff_ne.2 (by omega)
            have hsz : (sbits (signs (wU C) 9)).size = 9 := by rw [sbits_size, signs_len]
            have hsy : (⟨#[49, 49, 48]⟩ : ByteArray).size = 3 := rfl
            go_wp2_with (go_at_call 38; refine (signs_any (wU C) 9 (wU_bd C).1 (wU_bd C).2 (by omega) _).mono ?_; rintro e w1 ⟨rfl, rfl⟩)
            go_roundw
            case rel => exact ⟨i + 1 + 1 + 1, _, by omega, by go_num, rfl, by simp only [ByteArray.size_append]; omega, HN, below_drewN hbr _⟩
            case measure => simp [intOf]; omega
          · have HN : Hid (S ++ (sbits [true, true, false] ++ sbits (signs (wU C) 9)) = sbits (tsTo l (i + 1 + 1 + 1))) := by
              show _ = _
              rw [ts_next, HCH.out, ch2 (by omega) (by omega) (by omega), ← sbits_append, ← sbits_append, HS.out]
            rw [sb2] at HN
            have z0 : (C == 0) = false := beq_eq_false_iff_ne.2 (by omega)
            have hsz : (sbits (signs (wU C) 9)).size = 9 := by rw [sbits_size, signs_len]
            have hsy : (⟨#[49, 49, 48]⟩ : ByteArray).size = 3 := rfl
            have hU : wU C = C := by unfold wU; rw [IntKind.wrap_u64]; omega
            rw [hU] at HN hsz
            go_wp2_with (go_at_call 38; refine (signs_any C 9 (by omega) (by omega) (by omega) _).mono ?_; rintro e w1 ⟨rfl, rfl⟩)
            go_roundw
            case rel => exact ⟨i + 1 + 1 + 1, _, by omega, by go_num, rfl, by simp only [ByteArray.size_append]; omega, HN, below_drewN hbr _⟩
            case measure => simp [intOf]; omega
          · have HN : Hid (S ++ (sbits [true, true, true, false] ++ sbits (signs (wU C) 12)) = sbits (tsTo l (i + 1 + 1 + 1))) := by
              show _ = _
              rw [ts_next, HCH.out, ch3 (by omega) (by omega) (by omega) (by omega), ← sbits_append, ← sbits_append, HS.out]
            rw [sb3] at HN
            have z0 : (C == 0) = false := beq_eq_false_iff_ne.2 (by omega)
            have hsz : (sbits (signs (wU C) 12)).size = 12 := by rw [sbits_size, signs_len]
            have hsy : (⟨#[49, 49, 49, 48]⟩ : ByteArray).size = 4 := rfl
            go_wp2_with (go_at_call 38; refine (signs_any (wU C) 12 (wU_bd C).1 (wU_bd C).2 (by omega) _).mono ?_; rintro e w1 ⟨rfl, rfl⟩)
            go_roundw
            case rel => exact ⟨i + 1 + 1 + 1, _, by omega, by go_num, rfl, by simp only [ByteArray.size_append]; omega, HN, below_drewN hbr _⟩
            case measure => simp [intOf]; omega
          · have HN : Hid (S ++ (sbits [true, true, true, false] ++ sbits (signs (wU C) 12)) = sbits (tsTo l (i + 1 + 1 + 1))) := by
              show _ = _
              rw [ts_next, HCH.out, ch3 (by omega) (by omega) (by omega) (by omega), ← sbits_append, ← sbits_append, HS.out]
            rw [sb3] at HN
            have z0 : (C == 0) = false := beq_eq_false_iff_ne.2 (by omega)
            have hsz : (sbits (signs (wU C) 12)).size = 12 := by rw [sbits_size, signs_len]
            have hsy : (⟨#[49, 49, 49, 48]⟩ : ByteArray).size = 4 := rfl
            have hU : wU C = C := by unfold wU; rw [IntKind.wrap_u64]; omega
            rw [hU] at HN hsz
            go_wp2_with (go_at_call 38; refine (signs_any C 12 (by omega) (by omega) (by omega) _).mono ?_; rintro e w1 ⟨rfl, rfl⟩)
            go_roundw
            case rel => exact ⟨i + 1 + 1 + 1, _, by omega, by go_num, rfl, by simp only [ByteArray.size_append]; omega, HN, below_drewN hbr _⟩
            case measure => simp [intOf]; omega
          · have HN : Hid (S ++ (sbits [true, true, true, true] ++ sbits (signs (wU C) 64)) = sbits (tsTo l (i + 1 + 1 + 1))) := by
              show _ = _
              rw [ts_next, HCH.out, ch4 (by omega) (by omega) (by omega) (by omega), ← sbits_append, ← sbits_append, HS.out]
            rw [sb4] at HN
            have z0 : (C == 0) = false := beq_eq_false_iff_ne.2 (by omega)
            have hsz : (sbits (signs (wU C) 64)).size = 64 := by rw [sbits_size, signs_len]
            have hsy : (⟨#[49, 49, 49, 49]⟩ : ByteArray).size = 4 := rfl
            go_wp2_with (go_at_call 38; refine (signs_any (wU C) 64 (wU_bd C).1 (wU_bd C).2 (by omega) _).mono ?_; rintro e w1 ⟨rfl, rfl⟩)
            go_roundw
            case rel => exact ⟨i + 1 + 1 + 1, _, by omega, by go_num, rfl, by simp only [ByteArray.size_append]; omega, HN, below_drewN hbr _⟩
            case measure => simp [intOf]; omega
          · have HN : Hid (S ++ (sbits [true, true, true, true] ++ sbits (signs (wU C) 64)) = sbits (tsTo l (i + 1 + 1 + 1))) := by
              show _ = _
              rw [ts_next, HCH.out, ch4 (by omega) (by omega) (by omega) (by omega), ← sbits_append, ← sbits_append, HS.out]
            rw [sb4] at HN
            have z0 : (C == 0) = false := beq_eq_false_iff_ne.2 (by omega)
            have hsz : (sbits (signs (wU C) 64)).size = 64 := by rw [sbits_size, signs_len]
            have hsy : (⟨#[49, 49, 49, 49]⟩ : ByteArray).size = 4 := rfl
            go_wp2_with (go_at_call 38; refine (signs_any (wU C) 64 (wU_bd C).1 (wU_bd C).2 (by omega) _).mono ?_; rintro e w1 ⟨rfl, rfl⟩)
            go_roundw
            case rel => exact ⟨i + 1 + 1 + 1, _, by omega, by go_num, rfl, by simp only [ByteArray.size_append]; omega, HN, below_drewN hbr _⟩
            case measure => simp [intOf]; omega
    · obtain rfl : k = n := by omega
      go_wp2_with fail
      go_ret
      exact ⟨ret_str HS.out, hbr⟩
end Go.Proofs.YtbifhmbfmoeofaaDoor.Delta
