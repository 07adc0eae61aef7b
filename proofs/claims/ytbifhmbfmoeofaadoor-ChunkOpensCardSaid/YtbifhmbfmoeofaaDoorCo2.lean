/-
  The walks of delta's fits and of TimeSigns.
-/
import Derived.Test.YtbifhmbfmoeofaaDoorCo1
import Derived.IntWalk
import Derived.Deep.QuietTactic
import Derived.BigQuiet
import Derived.StillTailTactics
import Derived.Deep.Cut
import Derived.Deep.DeepCutAuto
import Derived.WalkSpells
namespace Go.Proofs.YtbifhmbfmoeofaaDoor.Delta
open Go.RowKit Go.Gh Go.Proofs.YtbifhmbfmoeofaaDoor.Bits
set_option linter.unusedVariables false

theorem fits0 (c : Int) (w : World) : Calls Tryd.prog 36 #[.int .i64 c, .int .i64 0] w fun e w' => e = .returned (.bool (decide (fitN c 0))) ∧ w' = w := by
  by_cases h : c = 0
  · have HF : Hid (decide (fitN c 0) = true) := decide_eq_true h
    have e1 : (c == 0) = true := by rw [h]; rfl
    clear h
    go_enter Tryd.func36, Tryd.ntmps36
    go_wp2_with fail
    go_ret
    exact ⟨ret_bool HF.out.symm, rfl⟩
  · have HF : Hid (decide (fitN c 0) = false) := decide_eq_false h
    have e1 : (c == 0) = false := beq_eq_false_iff_ne.2 h
    clear h
    go_enter Tryd.func36, Tryd.ntmps36
    go_wp2_with fail
    go_ret
    exact ⟨ret_bool HF.out.symm, rfl⟩
theorem fits7 (c : Int) (h0 : -9223372036854775808 ≤ c) (h1 : c < 9223372036854775808) (w : World) : Calls Tryd.prog 36 #[.int .i64 c, .int .i64 7] w fun e w' => e = .returned (.bool (decide (fitN c 1))) ∧ w' = w := by
  have HE : fitN c 1 = (-64 ≤ c ∧ c ≤ 63) := rfl
  have HF : Hid (decide (fitN c 1) = (wrap64 (c * 144115188075855872) / 144115188075855872 == c)) := by
    show _ = _
    rw [Bool.eq_iff_iff, decide_eq_true_iff, beq_iff_eq]
    rw [HE]
    unfold wrap64
    omega
  clear h0 h1 HE
  go_enter Tryd.func36, Tryd.ntmps36
  go_wp2_with fail
  go_ret
  exact ⟨ret_bool HF.out.symm, rfl⟩
theorem fits9 (c : Int) (h0 : -9223372036854775808 ≤ c) (h1 : c < 9223372036854775808) (w : World) : Calls Tryd.prog 36 #[.int .i64 c, .int .i64 9] w fun e w' => e = .returned (.bool (decide (fitN c 2))) ∧ w' = w := by
  have HE : fitN c 2 = (-256 ≤ c ∧ c ≤ 255) := rfl
  have HF : Hid (decide (fitN c 2) = (wrap64 (c * 36028797018963968) / 36028797018963968 == c)) := by
    show _ = _
    rw [Bool.eq_iff_iff, decide_eq_true_iff, beq_iff_eq]
    rw [HE]
    unfold wrap64
    omega
  clear h0 h1 HE
  go_enter Tryd.func36, Tryd.ntmps36
  go_wp2_with fail
  go_ret
  exact ⟨ret_bool HF.out.symm, rfl⟩
theorem fits12 (c : Int) (h0 : -9223372036854775808 ≤ c) (h1 : c < 9223372036854775808) (w : World) : Calls Tryd.prog 36 #[.int .i64 c, .int .i64 12] w fun e w' => e = .returned (.bool (decide (fitN c 3))) ∧ w' = w := by
  have HE : fitN c 3 = (-2048 ≤ c ∧ c ≤ 2047) := rfl
  have HF : Hid (decide (fitN c 3) = (wrap64 (c * 4503599627370496) / 4503599627370496 == c)) := by
    show _ = _
    rw [Bool.eq_iff_iff, decide_eq_true_iff, beq_iff_eq]
    rw [HE]
    unfold wrap64
    omega
  clear h0 h1 HE
  go_enter Tryd.func36, Tryd.ntmps36
  go_wp2_with fail
  go_ret
  exact ⟨ret_bool HF.out.symm, rfl⟩
theorem fits64 (c : Int) (h0 : -9223372036854775808 ≤ c) (h1 : c < 9223372036854775808) (w : World) : Calls Tryd.prog 36 #[.int .i64 c, .int .i64 64] w fun e w' => e = .returned (.bool (decide (fitN c 4))) ∧ w' = w := by
  have HF : Hid (decide (fitN c 4) = true) := decide_eq_true trivial
  have HW : wrap64 c = c := by unfold wrap64; omega
  have e1 : (c == c) = true := by simp
  clear h0 h1
  go_enter Tryd.func36, Tryd.ntmps36
  go_wp2_with fail
  go_ret
  exact ⟨ret_bool (by first | exact HF.out.symm | (rw [HF.out]; simp [HW])), rfl⟩
theorem sb0 : sbits [false] = ⟨#[48]⟩ := rfl
theorem sb1 : sbits [true, false] = ⟨#[49, 48]⟩ := rfl
theorem sb2 : sbits [true, true, false] = ⟨#[49, 49, 48]⟩ := rfl
theorem sb3 : sbits [true, true, true, false] = ⟨#[49, 49, 49, 48]⟩ := rfl
theorem sb4 : sbits [true, true, true, true] = ⟨#[49, 49, 49, 49]⟩ := rfl
theorem wI_bd (c : Int) : -9223372036854775808 ≤ wI c ∧ wI c < 9223372036854775808 := by
  unfold wI; rw [IntWalk.i64_left]; unfold wrap64; omega
theorem ch0 {c : Int} (h : c = 0) : chBits c = [false] := if_pos h
theorem ch1 {c : Int} (h0 : ¬ c = 0) (h1 : -64 ≤ c ∧ c ≤ 63) : chBits c = [true, false] ++ signs (wU c) 7 := by unfold chBits; rw [if_neg h0, if_pos h1]
theorem ch2 {c : Int} (h0 : ¬ c = 0) (h1 : ¬ (-64 ≤ c ∧ c ≤ 63)) (h2 : -256 ≤ c ∧ c ≤ 255) : chBits c = [true, true, false] ++ signs (wU c) 9 := by unfold chBits; rw [if_neg h0, if_neg h1, if_pos h2]
theorem ch3 {c : Int} (h0 : ¬ c = 0) (h1 : ¬ (-64 ≤ c ∧ c ≤ 63)) (h2 : ¬ (-256 ≤ c ∧ c ≤ 255)) (h3 : -2048 ≤ c ∧ c ≤ 2047) : chBits c = [true, true, true, false] ++ signs (wU c) 12 := by unfold chBits; rw [if_neg h0, if_neg h1, if_neg h2, if_pos h3]
theorem ch4 {c : Int} (h0 : ¬ c = 0) (h1 : ¬ (-64 ≤ c ∧ c ≤ 63)) (h2 : ¬ (-256 ≤ c ∧ c ≤ 255)) (h3 : ¬ (-2048 ≤ c ∧ c ≤ 2047)) : chBits c = [true, true, true, true] ++ signs (wU c) 64 := by unfold chBits; rw [if_neg h0, if_neg h1, if_neg h2, if_neg h3]
set_option maxHeartbeats 12000000 in
set_option maxRecDepth 100000 in
theorem timesigns_any (v : Value) (n : Nat) (l : List Int) (w : World) (hs : Sl w 1 v n (l.map (Value.int .i64))) (hl : l.length = n) (hwf : ∀ z ∈ l, (Lit.int .i64 z).wf = true) (hn : n ≤ 1000) :
    Calls Tryd.prog 20 #[v] w fun e w' => e = .returned (.string (sbits (tsTo l n))) ∧ Below w.heap.size w w' := by
  obtain ⟨ao, c, rfl, hnc, hc, _⟩ := hs.shape
  have HL := Lib.hid hl
  have HWF := Lib.hid hwf
  have hu : IntKind.u64.wrap (n : Int) = (n : Int) := by rw [IntKind.wrap_u64]; omega
  have hu0 : (0 : Int) ≤ n := by omega
  have hu1 : (n : Int) < 18446744073709551616 := by omega
  have h0 : sbits (signs (n : Int) 16) = sbits (tsTo l 0) := by rw [ts_zero, hl]
  have H0 := Lib.hid h0
  have hsz0 : (sbits (signs (n : Int) 16)).size ≤ 80 := by rw [sbits_size, signs_len]; omega
  clear hl hwf h0
  go_enter Tryd.func20, Tryd.ntmps20
  go_wp2_with (go_at_call 38; refine (signs_any (n : Int) 16 hu0 hu1 (by omega) _).mono ?_; rintro e w1 ⟨rfl, rfl⟩)
  go_loopw [3, 14] (fun s i wr => ∃ (k : Nat) (S : ByteArray), k ≤ n ∧ i = .int .i64 k ∧ s = .string S ∧ S.size ≤ 80 + 68 * k ∧ Hid (S = sbits (tsTo l k)) ∧ Below w.heap.size w wr) (fun _ i _ => n - (intOf i).toNat)
  case atStart => exact ⟨0, _, by omega, rfl, rfl, by omega, H0, Below.refl _ _⟩
  case round =>
    obtain ⟨k, S, hk, rfl, rfl, hS1, HS, hbr⟩ := hrel
    by_cases hlt : k < n
    · obtain ⟨b, off, rfl, hck⟩ := (hs.below hbr).int (i := k) hlt
      have hk1 : k < l.length := by rw [HL.out]; exact hlt
      have hwk := wf_i64 (HWF.out (l.getD k 0) (by rw [List.getD_eq_getElem?_getD, List.getElem?_eq_getElem hk1]; exact List.getElem_mem _))
      obtain ⟨t, ht⟩ : ∃ t, l.getD k 0 = t := ⟨_, rfl⟩
      rw [ht] at hck hwk
      have HT := Lib.hid ht
      clear ht hk1
      by_cases h0 : k = 0
      · have HN : Hid (S ++ sbits (signs (wU t) 64) = sbits (tsTo l (k + 1))) := by
          show _ = _
          have h := HS.out
          have h2 := HT.out
          subst h0
          rw [h, ts_first, h2, sbits_append]
        have hsz : (sbits (signs (wU t) 64)).size = 64 := by rw [sbits_size, signs_len]
        have e0 : ((k : Int) == 0) = true := by rw [h0]; rfl
        have hut : IntKind.u64.wrap t = wU t := rfl
        have hk0 : k ≤ 0 := by omega
        clear h0
        go_wp2_with (go_at_call 38; refine (signs_any (wU t) 64 (wU_bd t).1 (wU_bd t).2 (by omega) _).mono ?_; rintro e w1 ⟨rfl, rfl⟩)
        go_roundw
        case rel => exact ⟨k + 1, _, by omega, by go_num, rfl, by rw [ByteArray.size_append]; omega, HN, hbr⟩
        case measure => simp [intOf]; omega
      · obtain ⟨j, rfl⟩ : ∃ j, k = j + 1 := ⟨k - 1, by omega⟩
        clear h0 hu hu0 hu1 hsz0
        obtain ⟨b', off', hbo, hcj⟩ := (hs.below hbr).int (i := j) (by omega)
        simp only [Option.some.injEq, Addr.mk.injEq, and_true] at hbo
        obtain ⟨rfl, rfl⟩ := hbo
        obtain ⟨P, hP⟩ : ∃ t, l.getD j 0 = t := ⟨_, rfl⟩
        rw [hP] at hcj
        have HP := Lib.hid hP
        clear hP
        have e0 : (((j + 1 : Nat) : Int) == 0) = false := beq_eq_false_iff_ne.2 (by omega)
        have e0' : ((j : Int) + 1 == 0) = false := beq_eq_false_iff_ne.2 (by omega)
        have i0 : ((j + 1 : Nat) : Int) - 1 = (j : Int) := by omega
        have i1 : IntKind.i64.wrap ((j : Int) + 1 - 1) = (j : Int) := by rw [IntWalk.i64_in _ (by omega)]; omega
        have i6 : IntKind.i64.wrap (j : Int) = (j : Int) := IntWalk.i64_in _ (by omega)
        by_cases hj0 : j = 0
        · have hg : decide ((1 : Int) < (j : Int) + 1) = false := decide_eq_false (by omega)
          obtain ⟨C, hC⟩ : ∃ C, wrap64 (wrap64 (t - P) - 0) = C := ⟨_, rfl⟩
          have hC' : wrap64 (wrap64 (t - P)) = C := by rw [← hC, Int.sub_zero]
          have HCH : Hid (chAt l (j + 1) = C) := by
            show _ = _
            unfold chAt stepAt wI
            rw [if_pos (by omega), HT.out, show j + 1 - 1 = j by omega, HP.out, IntWalk.i64_left, IntWalk.i64_left]
            exact hC
          clear hj0
          have hsplit : C = 0 ∨ (-64 ≤ C ∧ C ≤ 63 ∧ ¬ C = 0) ∨ (-256 ≤ C ∧ C < -64) ∨ (63 < C ∧ C ≤ 255) ∨ (-2048 ≤ C ∧ C < -256) ∨ (255 < C ∧ C ≤ 2047) ∨ C < -2048 ∨ 2047 < C := by omega
          go_upto_region 10 with (fail)
          go_cut [7] (fun cv wx => cv = .int .i64 C ∧ wx = wr)
          case first =>
            go_wp2_with fail
            go_meet
            exact ⟨by first | rfl | (rw [hC]) | (rw [hC']) | simp [hC'] , rfl⟩
          obtain ⟨rfl, hwx⟩ := hcut
          subst hwx
          clear hC hC' i0 i1 i6 e0 e0' hg hck hcj hwk
          rcases hsplit with h | h | h | h | h | h | h | h
          · have HN : Hid (S ++ ⟨#[48]⟩ = sbits (tsTo l (j + 1 + 1))) := by
              show _ = _
              rw [ts_next, HCH.out, ch0 h, ← sbits_append, sb0, HS.out]
            have z0 : (C == 0) = true := by rw [h]; rfl
            have hsz : (⟨#[48]⟩ : ByteArray).size = 1 := rfl
            clear h
            go_wp2_with fail
            go_roundw
            case rel => exact ⟨j + 1 + 1, _, by omega, by go_num, rfl, by simp only [ByteArray.size_append]; omega, HN, hbr⟩
            case measure => simp [intOf]; omega
          · have HN : Hid (S ++ (sbits [true, false] ++ sbits (signs (wU C) 7)) = sbits (tsTo l (j + 1 + 1))) := by
              show _ = _
              rw [ts_next, HCH.out, ch1 (by omega) (by omega), ← sbits_append, ← sbits_append, HS.out]
            rw [sb1] at HN
            have z0 : (C == 0) = false := beq_eq_false_iff_ne.2 (by omega)
            have hsz : (sbits (signs (wU C) 7)).size = 7 := by rw [sbits_size, signs_len]
            have hsy : (⟨#[49, 48]⟩ : ByteArray).size = 2 := rfl
            go_wp2_with (go_at_call 38; refine (signs_any (wU C) 7 (wU_bd C).1 (wU_bd C).2 (by omega) _).mono ?_; rintro e w1 ⟨rfl, rfl⟩)
            go_roundw
            case rel => exact ⟨j + 1 + 1, _, by omega, by go_num, rfl, by simp only [ByteArray.size_append]; omega, HN, hbr⟩
            case measure => simp [intOf]; omega
          · have HN : Hid (S ++ (sbits [true, true, false] ++ sbits (signs (wU C) 9)) = sbits (tsTo l (j + 1 + 1))) := by
              show _ = _
              rw [ts_next, HCH.out, ch2 (by omega) (by omega) (by omega), ← sbits_append, ← sbits_append, HS.out]
            rw [sb2] at HN
            have z0 : (C == 0) = false := beq_eq_false_iff_ne.2 (by omega)
            have hsz : (sbits (signs (wU C) 9)).size = 9 := by rw [sbits_size, signs_len]
            have hsy : (⟨#[49, 49, 48]⟩ : ByteArray).size = 3 := rfl
            go_wp2_with (go_at_call 38; refine (signs_any (wU C) 9 (wU_bd C).1 (wU_bd C).2 (by omega) _).mono ?_; rintro e w1 ⟨rfl, rfl⟩)
            go_roundw
            case rel => exact ⟨j + 1 + 1, _, by omega, by go_num, rfl, by simp only [ByteArray.size_append]; omega, HN, hbr⟩
            case measure => simp [intOf]; omega
          · have HN : Hid (S ++ (sbits [true, true, false] ++ sbits (signs (wU C) 9)) = sbits (tsTo l (j + 1 + 1))) := by
              show _ = _
              rw [ts_next, HCH.out, ch2 (by omega) (by omega) (by omega), ← sbits_append, ← sbits_append, HS.out]
            rw [sb2] at HN
            have z0 : (C == 0) = false := beq_eq_false_iff_ne.2 (by omega)
            have hsz : (sbits (signs (wU C) 9)).size = 9 := by rw [sbits_size, signs_len]
            have hsy : (⟨#[49, 49, 48]⟩ : ByteArray).size = 3 := rfl
            have hU : wU C = C := by unfold wU; rw [IntKind.wrap_u64]; omega
            rw [hU] at HN hsz
            go_wp2_with (go_at_call 38; refine (signs_any C 9 (by omega) (by omega) (by omega) _).mono ?_; rintro e w1 ⟨rfl, rfl⟩)
            go_roundw
            case rel => exact ⟨j + 1 + 1, _, by omega, by go_num, rfl, by simp only [ByteArray.size_append]; omega, HN, hbr⟩
            case measure => simp [intOf]; omega
          · have HN : Hid (S ++ (sbits [true, true, true, false] ++ sbits (signs (wU C) 12)) = sbits (tsTo l (j + 1 + 1))) := by
              show _ = _
              rw [ts_next, HCH.out, ch3 (by omega) (by omega) (by omega) (by omega), ← sbits_append, ← sbits_append, HS.out]
            rw [sb3] at HN
            have z0 : (C == 0) = false := beq_eq_false_iff_ne.2 (by omega)
            have hsz : (sbits (signs (wU C) 12)).size = 12 := by rw [sbits_size, signs_len]
            have hsy : (⟨#[49, 49, 49, 48]⟩ : ByteArray).size = 4 := rfl
            go_wp2_with (go_at_call 38; refine (signs_any (wU C) 12 (wU_bd C).1 (wU_bd C).2 (by omega) _).mono ?_; rintro e w1 ⟨rfl, rfl⟩)
            go_roundw
            case rel => exact ⟨j + 1 + 1, _, by omega, by go_num, rfl, by simp only [ByteArray.size_append]; omega, HN, hbr⟩
            case measure => simp [intOf]; omega
          · have HN : Hid (S ++ (sbits [true, true, true, false] ++ sbits (signs (wU C) 12)) = sbits (tsTo l (j + 1 + 1))) := by
              show _ = _
              rw [ts_next, HCH.out, ch3 (by omega) (by omega) (by omega) (by omega), ← sbits_append, ← sbits_append, HS.out]
            rw [sb3] at HN
            have z0 : (C == 0) = false := beq_eq_false_iff_ne.2 (by omega)
            have hsz : (sbits (signs (wU C) 12)).size = 12 := by rw [sbits_size, signs_len]
            have hsy : (⟨#[49, 49, 49, 48]⟩ : ByteArray).size = 4 := rfl
            have hU : wU C = C := by unfold wU; rw [IntKind.wrap_u64]; omega
            rw [hU] at HN hsz
            go_wp2_with (go_at_call 38; refine (signs_any C 12 (by omega) (by omega) (by omega) _).mono ?_; rintro e w1 ⟨rfl, rfl⟩)
            go_roundw
            case rel => exact ⟨j + 1 + 1, _, by omega, by go_num, rfl, by simp only [ByteArray.size_append]; omega, HN, hbr⟩
            case measure => simp [intOf]; omega
          · have HN : Hid (S ++ (sbits [true, true, true, true] ++ sbits (signs (wU C) 64)) = sbits (tsTo l (j + 1 + 1))) := by
              show _ = _
              rw [ts_next, HCH.out, ch4 (by omega) (by omega) (by omega) (by omega), ← sbits_append, ← sbits_append, HS.out]
            rw [sb4] at HN
            have z0 : (C == 0) = false := beq_eq_false_iff_ne.2 (by omega)
            have hsz : (sbits (signs (wU C) 64)).size = 64 := by rw [sbits_size, signs_len]
            have hsy : (⟨#[49, 49, 49, 49]⟩ : ByteArray).size = 4 := rfl
            go_wp2_with (go_at_call 38; refine (signs_any (wU C) 64 (wU_bd C).1 (wU_bd C).2 (by omega) _).mono ?_; rintro e w1 ⟨rfl, rfl⟩)
            go_roundw
            case rel => exact ⟨j + 1 + 1, _, by omega, by go_num, rfl, by simp only [ByteArray.size_append]; omega, HN, hbr⟩
            case measure => simp [intOf]; omega
          · have HN : Hid (S ++ (sbits [true, true, true, true] ++ sbits (signs (wU C) 64)) = sbits (tsTo l (j + 1 + 1))) := by
              show _ = _
              rw [ts_next, HCH.out, ch4 (by omega) (by omega) (by omega) (by omega), ← sbits_append, ← sbits_append, HS.out]
            rw [sb4] at HN
            have z0 : (C == 0) = false := beq_eq_false_iff_ne.2 (by omega)
            have hsz : (sbits (signs (wU C) 64)).size = 64 := by rw [sbits_size, signs_len]
            have hsy : (⟨#[49, 49, 49, 49]⟩ : ByteArray).size = 4 := rfl
            go_wp2_with (go_at_call 38; refine (signs_any (wU C) 64 (wU_bd C).1 (wU_bd C).2 (by omega) _).mono ?_; rintro e w1 ⟨rfl, rfl⟩)
            go_roundw
            case rel => exact ⟨j + 1 + 1, _, by omega, by go_num, rfl, by simp only [ByteArray.size_append]; omega, HN, hbr⟩
            case measure => simp [intOf]; omega
        · obtain ⟨i, rfl⟩ : ∃ i, j = i + 1 := ⟨j - 1, by omega⟩
          clear hj0
          obtain ⟨b', off', hbo, hci⟩ := (hs.below hbr).int (i := i) (by omega)
          simp only [Option.some.injEq, Addr.mk.injEq, and_true] at hbo
          obtain ⟨rfl, rfl⟩ := hbo
          obtain ⟨O, hO⟩ : ∃ t, l.getD i 0 = t := ⟨_, rfl⟩
          rw [hO] at hci
          have HO := Lib.hid hO
          clear hO
          have hg : decide ((1 : Int) < (i : Int) + 1 + 1) = true := decide_eq_true (by omega)
          have j0 : ((i + 1 + 1 : Nat) : Int) - 2 = (i : Int) := by omega
          have j1 : IntKind.i64.wrap ((i : Int) + 1 + 1 - 1) = (i : Int) + 1 := by rw [IntWalk.i64_in _ (by omega)]; omega
          have j2 : IntKind.i64.wrap ((i : Int) + 1 + 1 - 2) = (i : Int) := by rw [IntWalk.i64_in _ (by omega)]; omega
          have j3 : ((i : Int) + 1).toNat = i + 1 := by omega
          have j4 : (i : Int) + 1 < n := by omega
          have j5 : 0 ≤ (i : Int) + 1 := by omega
          have j6 : (i : Int) < n := by omega
          obtain ⟨A, hA⟩ : ∃ A, wrap64 (P - O) = A := ⟨_, rfl⟩
          have hA' : IntKind.i64.wrap (P - O) = A := by rw [IntWalk.i64_left]; exact hA
          obtain ⟨C, hC⟩ : ∃ C, wrap64 (wrap64 (t - P) - A) = C := ⟨_, rfl⟩
          have HCH : Hid (chAt l (i + 1 + 1) = C) := by
            show _ = _
            unfold chAt stepAt wI
            rw [if_neg (by omega), HT.out, show i + 1 + 1 - 1 = i + 1 by omega, show i + 1 + 1 - 2 = i by omega, HP.out, HO.out, hA', IntWalk.i64_left, IntWalk.i64_left]
            exact hC
          have hsplit : C = 0 ∨ (-64 ≤ C ∧ C ≤ 63 ∧ ¬ C = 0) ∨ (-256 ≤ C ∧ C < -64) ∨ (63 < C ∧ C ≤ 255) ∨ (-2048 ≤ C ∧ C < -256) ∨ (255 < C ∧ C ≤ 2047) ∨ C < -2048 ∨ 2047 < C := by omega
          go_wp2_with fail
          go_quiet (fail)
          go_upto_region 10 with (fail)
          go_cut [7] (fun cv wx => cv = .int .i64 C ∧ wx = wr.drewN nq)
          case first =>
            go_wp2_with fail
            go_meet
            exact ⟨by first | rfl | (rw [hC]) | (rw [hC']) | simp [hC'] , rfl⟩
          obtain ⟨rfl, hwx⟩ := hcut
          subst hwx
          clear hC hA hA' i0 i1 i6 e0 e0' hg hck hcj hci hwk j0 j1 j2 j3 j4 j5 j6
          rcases hsplit with h | h | h | h | h | h | h | h
          · have HN : Hid (S ++ ⟨#[48]⟩ = sbits (tsTo l (i + 1 + 1 + 1))) := by
              show _ = _
              rw [ts_next, HCH.out, ch0 h, ← sbits_append, sb0, HS.out]
            have z0 : (C == 0) = true := by rw [h]; rfl
            have hsz : (⟨#[48]⟩ : ByteArray).size = 1 := rfl
            clear h
            go_wp2_with fail
            go_roundw
            case rel => exact ⟨i + 1 + 1 + 1, _, by omega, by go_num, rfl, by simp only [ByteArray.size_append]; omega, HN, below_drewN hbr _⟩
            case measure => simp [intOf]; omega
          · have HN : Hid (S ++ (sbits [true, false] ++ sbits (signs (wU C) 7)) = sbits (tsTo l (i + 1 + 1 + 1))) := by
              show _ = _
              rw [ts_next, HCH.out, ch1 (by omega) (by omega), ← sbits_append, ← sbits_append, HS.out]
            rw [sb1] at HN
            have z0 : (C == 0) = false := beq_eq_false_iff_ne.2 (by omega)
            have hsz : (sbits (signs (wU C) 7)).size = 7 := by rw [sbits_size, signs_len]
            have hsy : (⟨#[49, 48]⟩ : ByteArray).size = 2 := rfl
            go_wp2_with (go_at_call 38; refine (signs_any (wU C) 7 (wU_bd C).1 (wU_bd C).2 (by omega) _).mono ?_; rintro e w1 ⟨rfl, rfl⟩)
            go_roundw
            case rel => exact ⟨i + 1 + 1 + 1, _, by omega, by go_num, rfl, by simp only [ByteArray.size_append]; omega, HN, below_drewN hbr _⟩
            case measure => simp [intOf]; omega
          · have HN : Hid (S ++ (sbits [true, true, false] ++ sbits (signs (wU C) 9)) = sbits (tsTo l (i + 1 + 1 + 1))) := by
              show _ = _
              rw [ts_next, HCH.out, ch2 (by omega) (by omega) (by omega), ← sbits_append, ← sbits_append, HS.out]
            rw [sb2] at HN
            have z0 : (C == 0) = false := beq_eq_false_iff_ne.2 (by omega)
            have hsz : (sbits (signs (wU C) 9)).size = 9 := by rw [sbits_size, signs_len]
            have hsy : (⟨#[49, 49, 48]⟩ : ByteArray).size = 3 := rfl
            go_wp2_with (go_at_call 38; refine (signs_any (wU C) 9 (wU_bd C).1 (wU_bd C).2 (by omega) _).mono ?_; rintro e w1 ⟨rfl, rfl⟩)
            go_roundw
            case rel => exact ⟨i + 1 + 1 + 1, _, by omega, by go_num, rfl, by simp only [ByteArray.size_append]; omega, HN, below_drewN hbr _⟩
            case measure => simp [intOf]; omega
          · have HN : Hid (S ++ (sbits [true, true, false] ++ sbits (signs (wU C) 9)) = sbits (tsTo l (i + 1 + 1 + 1))) := by
              show _ = _
              rw [ts_next, HCH.out, ch2 (by omega) (by omega) (by omega), ← sbits_append, ← sbits_append, HS.out]
            rw [sb2] at HN
            have z0 : (C == 0) = false := beq_eq_false_iff_ne.2 (by omega)
            have hsz : (sbits (signs (wU C) 9)).size = 9 := by rw [sbits_size, signs_len]
            have hsy : (⟨#[49, 49, 48]⟩ : ByteArray).size = 3 := rfl
            have hU : wU C = C := by unfold wU; rw [IntKind.wrap_u64]; omega
            rw [hU] at HN hsz
            go_wp2_with (go_at_call 38; refine (signs_any C 9 (by omega) (by omega) (by omega) _).mono ?_; rintro e w1 ⟨rfl, rfl⟩)
            go_roundw
            case rel => exact ⟨i + 1 + 1 + 1, _, by omega, by go_num, rfl, by simp only [ByteArray.size_append]; omega, HN, below_drewN hbr _⟩
            case measure => simp [intOf]; omega
          · have HN : Hid (S ++ (sbits [true, true, true, false] ++ sbits (signs (wU C) 12)) = sbits (tsTo l (i + 1 + 1 + 1))) := by
              show _ = _
              rw [ts_next, HCH.out, ch3 (by omega) (by omega) (by omega) (by omega), ← sbits_append, ← sbits_append, HS.out]
            rw [sb3] at HN
            have z0 : (C == 0) = false := beq_eq_false_iff_ne.2 (by omega)
            have hsz : (sbits (signs (wU C) 12)).size = 12 := by rw [sbits_size, signs_len]
            have hsy : (⟨#[49, 49, 49, 48]⟩ : ByteArray).size = 4 := rfl
            go_wp2_with (go_at_call 38; refine (signs_any (wU C) 12 (wU_bd C).1 (wU_bd C).2 (by omega) _).mono ?_; rintro e w1 ⟨rfl, rfl⟩)
            go_roundw
            case rel => exact ⟨i + 1 + 1 + 1, _, by omega, by go_num, rfl, by simp only [ByteArray.size_append]; omega, HN, below_drewN hbr _⟩
            case measure => simp [intOf]; omega
          · have HN : Hid (S ++ (sbits [true, true, true, false] ++ sbits (signs (wU C) 12)) = sbits (tsTo l (i + 1 + 1 + 1))) := by
              show _ = _
              rw [ts_next, HCH.out, ch3 (by omega) (by omega) (by omega) (by omega), ← sbits_append, ← sbits_append, HS.out]
            rw [sb3] at HN
            have z0 : (C == 0) = false := beq_eq_false_iff_ne.2 (by omega)
            have hsz : (sbits (signs (wU C) 12)).size = 12 := by rw [sbits_size, signs_len]
            have hsy : (⟨#[49, 49, 49, 48]⟩ : ByteArray).size = 4 := rfl
            have hU : wU C = C := by unfold wU; rw [IntKind.wrap_u64]; omega
            rw [hU] at HN hsz
            go_wp2_with (go_at_call 38; refine (signs_any C 12 (by omega) (by omega) (by omega) _).mono ?_; rintro e w1 ⟨rfl, rfl⟩)
            go_roundw
            case rel => exact ⟨i + 1 + 1 + 1, _, by omega, by go_num, rfl, by simp only [ByteArray.size_append]; omega, HN, below_drewN hbr _⟩
            case measure => simp [intOf]; omega
          · have HN : Hid (S ++ (sbits [true, true, true, true] ++ sbits (signs (wU C) 64)) = sbits (tsTo l (i + 1 + 1 + 1))) := by
              show _ = _
              rw [ts_next, HCH.out, ch4 (by omega) (by omega) (by omega) (by omega), ← sbits_append, ← sbits_append, HS.out]
            rw [sb4] at HN
            have z0 : (C == 0) = false := beq_eq_false_iff_ne.2 (by omega)
            have hsz : (sbits (signs (wU C) 64)).size = 64 := by rw [sbits_size, signs_len]
            have hsy : (⟨#[49, 49, 49, 49]⟩ : ByteArray).size = 4 := rfl
            go_wp2_with (go_at_call 38; refine (signs_any (wU C) 64 (wU_bd C).1 (wU_bd C).2 (by omega) _).mono ?_; rintro e w1 ⟨rfl, rfl⟩)
            go_roundw
            case rel => exact ⟨i + 1 + 1 + 1, _, by omega, by go_num, rfl, by simp only [ByteArray.size_append]; omega, HN, below_drewN hbr _⟩
            case measure => simp [intOf]; omega
          · have HN : Hid (S ++ (sbits [true, true, true, true] ++ sbits (signs (wU C) 64)) = sbits (tsTo l (i + 1 + 1 + 1))) := by
              show _ = _
              rw [ts_next, HCH.out, ch4 (by omega) (by omega) (by omega) (by omega), ← sbits_append, ← sbits_append, HS.out]
            rw [sb4] at HN
            have z0 : (C == 0) = false := beq_eq_false_iff_ne.2 (by omega)
            have hsz : (sbits (signs (wU C) 64)).size = 64 := by rw [sbits_size, signs_len]
            have hsy : (⟨#[49, 49, 49, 49]⟩ : ByteArray).size = 4 := rfl
            go_wp2_with (go_at_call 38; refine (signs_any (wU C) 64 (wU_bd C).1 (wU_bd C).2 (by omega) _).mono ?_; rintro e w1 ⟨rfl, rfl⟩)
            go_roundw
            case rel => exact ⟨i + 1 + 1 + 1, _, by omega, by go_num, rfl, by simp only [ByteArray.size_append]; omega, HN, below_drewN hbr _⟩
            case measure => simp [intOf]; omega
    · obtain rfl : k = n := by omega
      go_wp2_with fail
      go_ret
      exact ⟨ret_str HS.out, hbr⟩
end Go.Proofs.YtbifhmbfmoeofaaDoor.Delta
/-
  The walks over bits that lie in a struct: whether they are right, whether they are the same, and back to noughts and ones.
-/
namespace Go.Proofs.YtbifhmbfmoeofaaDoor.Bits
open Go.RowKit Go.Gh Go.WideShapes
set_option linter.unusedVariables false

/-- A value of type api.Bits: its bytes l, and how many bits. -/
def BitsV (w : World) (v : Value) (l : List Int) (N : Int) : Prop :=
  ∃ b n, v = .agg #[b, .int .i64 N] ∧ Sl w 1 b n (l.map (Value.int .u8)) ∧ Bytes l ∧ (∀ z ∈ l, (Lit.int .u8 z).wf = true) ∧ n ≤ 140737488355328 ∧ -9223372036854775808 ≤ N ∧ N ≤ 9223372036854775807

open Classical in
noncomputable def faultB (l : List Int) (N : Int) : Int := if okB l N then 0 else 4

theorem box2 (w : World) (x y : Value) (e : TypeId) : (w.alloc (.cells #[x, y] e)).cell? ⟨w.heap.size, 0, none⟩ = some x ∧ (w.alloc (.cells #[x, y] e)).cell? ⟨w.heap.size, 1, none⟩ = some y :=
  ⟨cell_new w e [x, y] 0 x rfl, cell_new w e [x, y] 1 y rfl⟩

theorem bit_test (l : List Int) (z : Int) (k : Nat) (h0 : 0 ≤ z) (HZ : Hid (l.getD (k / 8) 0 = z)) : ((z / 2 ^ (7 - k % 8)).tmod 2 == 1) = bitAt l k := by
  unfold bitAt bitI
  rw [HZ.out, Int.tmod_eq_emod_of_nonneg (Int.ediv_nonneg h0 (Int.le_of_lt (two_pow_pos _)))]

set_option maxHeartbeats 1000000 in
theorem fault_any (v : Value) (l : List Int) (N : Int) (w : World) (hv : BitsV w v l N) :
    Calls Tryd.prog 24 #[v] w fun e w' => e = .returned (.int .i64 (faultB l N)) ∧ Below w.heap.size w w' := by
  obtain ⟨b, n, rfl, hs, hl, hwf, hn, hN0, hN1⟩ := hv
  obtain ⟨ao, c, rfl, hn', hc, hlen0⟩ := hs.shape
  have hlen : l.length = n := by simpa using hlen0
  by_cases h1 : N < 0
  · have HF : Hid (faultB l N = 4) := if_neg (by intro h; have := h.1; omega)
    go_enter Tryd.func24, Tryd.ntmps24
    go_wp2
    go_ret
    exact ⟨ret_int HF.out.symm, (Below.refl _ _).alloc (Nat.le_refl _) _⟩
  · by_cases h2 : 8 * (n : Int) < N
    · have HF : Hid (faultB l N = 4) := if_neg (by intro h; have := h.2.1; omega)
      clear hlen hlen0
      go_enter Tryd.func24, Tryd.ntmps24
      go_wp2
      go_ret
      exact ⟨ret_int HF.out.symm, (Below.refl _ _).alloc (Nat.le_refl _) _⟩
    · by_cases h3 : 7 < 8 * (n : Int) - N
      · have HF : Hid (faultB l N = 4) := if_neg (by intro h; have := h.2.2.1; omega)
        clear hlen hlen0
        go_enter Tryd.func24, Tryd.ntmps24
        go_wp2
        go_ret
        exact ⟨ret_int HF.out.symm, (Below.refl _ _).alloc (Nat.le_refl _) _⟩
      · obtain ⟨M, rfl⟩ := Int.eq_ofNat_of_zero_le (show 0 ≤ N by omega)
        have HL := Lib.hid hlen
        clear hlen hlen0
        go_enter Tryd.func24, Tryd.ntmps24
        go_wp2_with fail
        refine wp_abs (fun w1 => Sl w1 1 (.slice ao n c) n (l.map (Value.int .u8)) ∧ w1.cell? ⟨w.heap.size, 0, none⟩ = some (.slice ao n c) ∧ w1.cell? ⟨w.heap.size, 1, none⟩ = some (.int .i64 M) ∧ Below w.heap.size w w1) ⟨hs.alloc _, (box2 w _ _ _).1, (box2 w _ _ _).2, (Below.refl _ _).alloc (Nat.le_refl _) _⟩ ?_
        rintro w1 ⟨hs1, hb0, hb1, hbel⟩
        go_loop [3] (fun i => ∃ k : Nat, M ≤ k ∧ k ≤ 8 * n ∧ i = .int .i64 k ∧ Hid (∀ i : Nat, M ≤ i → i < k → bitAt l i = false)) (fun i => 8 * n - (intOf i).toNat)
        case atStart => exact ⟨M, by omega, by omega, rfl, fun i h1 h2 => by omega⟩
        case round =>
          obtain ⟨k, hk0, hk1, rfl, hz⟩ := hrel
          by_cases hlt : k < 8 * n
          · obtain ⟨b, off, z, rfl, hcell, hz0, hz1, HZ⟩ := hs1.byte hwf (show k / 8 < n by omega)
            have t0 := bit_test l z k hz0 HZ
            cases hb : bitAt l k with
            | true =>
              rw [hb] at t0
              have HF : Hid (faultB l (M : Int) = 4) := if_neg (by intro h; have := h.2.2.2 k (by omega) (by rw [HL.out]; omega); rw [hb] at this; exact absurd this (by decide))
              clear hb
              go_wp2
              go_ret
              exact ⟨ret_int HF.out.symm, hbel⟩
            | false =>
              rw [hb] at t0
              have HN : Hid (∀ i : Nat, M ≤ i → i < k + 1 → bitAt l i = false) := by
                intro i h1 h2
                rcases Nat.lt_or_eq_of_le (Nat.le_of_lt_succ h2) with h | h
                · exact hz.out i h1 h
                · rw [h]; exact hb
              clear hb
              go_wp2
              go_round
              case rel => exact ⟨k + 1, by omega, by omega, by go_num, HN⟩
              case measure => simp [intOf]; omega
          · have HF : Hid (faultB l (M : Int) = 0) := if_pos ⟨by omega, by rw [HL.out]; omega, by rw [HL.out]; omega, fun i h1 h2 => hz.out i (by omega) (by rw [HL.out] at h2; omega)⟩
            go_wp2
            go_ret
            exact ⟨ret_int HF.out.symm, hbel⟩
end Go.Proofs.YtbifhmbfmoeofaaDoor.Bits
/-
  The walks of SameBits, Unpacked, Packed.
-/
namespace Go.Proofs.YtbifhmbfmoeofaaDoor.Bits
open Go.RowKit Go.Gh Go.WideShapes
set_option linter.unusedVariables false

def sameB (l l' : List Int) (N N' : Int) : Bool := decide (l = l' ∧ N = N')
theorem same_step {l l' : List Int} {k : Nat} (h : Hid (l.take k = l'.take k)) (h1 : k < l.length) (h2 : k < l'.length) (he : l.getD k 0 = l'.getD k 0) : Hid (l.take (k + 1) = l'.take (k + 1)) := by
  show _ = _
  rw [List.take_succ_eq_append_getElem h1, List.take_succ_eq_append_getElem h2, h.out]
  rw [List.getD_eq_getElem?_getD, List.getD_eq_getElem?_getD, List.getElem?_eq_getElem h1, List.getElem?_eq_getElem h2] at he
  rw [show l[k] = l'[k] from by simpa using he]

set_option maxHeartbeats 1000000 in
theorem samebits_any (v v' : Value) (l l' : List Int) (N N' : Int) (w : World) (hv : BitsV w v l N) (hv' : BitsV w v' l' N') :
    Calls Tryd.prog 18 #[v, v'] w fun e w' => e = .returned (.bool (sameB l l' N N')) ∧ Below w.heap.size w w' := by
  obtain ⟨b, n, rfl, hs, hl, hwf, hn, hN0, hN1⟩ := hv
  obtain ⟨b', n', rfl, hs', hl', hwf', hn', hN0', hN1'⟩ := hv'
  obtain ⟨ao, c, rfl, hnc, hc, hlen⟩ := hs.shape
  obtain ⟨ao', c', rfl, hnc', hc', hlen'⟩ := hs'.shape
  have hlen : l.length = n := by simpa using hlen
  have hlen' : l'.length = n' := by simpa using hlen'
  by_cases h1 : N = N'
  · by_cases h2 : n = n'
    · have HL := Lib.hid hlen
      have HL' := Lib.hid hlen'
      clear hlen hlen'
      subst h1 h2
      have t1 : (N != N) = false := by simp
      have t2 : ((n : Int) != (n : Int)) = false := by simp
      go_enter Tryd.func18, Tryd.ntmps18
      go_wp2_with fail
      refine wp_abs (fun w1 => Sl w1 1 (.slice ao n c) n (l.map (Value.int .u8)) ∧ Sl w1 1 (.slice ao' n c') n (l'.map (Value.int .u8)) ∧ w1.cell? ⟨w.heap.size, 0, none⟩ = some (.slice ao n c) ∧ w1.cell? ⟨w.heap.size + 1, 0, none⟩ = some (.slice ao' n c') ∧ Below w.heap.size w w1 ∧ w.heap.size + 1 < w1.heap.size)
        ⟨(hs.alloc _).alloc _, (hs'.alloc _).alloc _, ?_, ?_, ((Below.refl _ _).alloc (Nat.le_refl _) _).alloc (by simp) _, by simp⟩ ?_
      · exact (((Below.refl _ _).alloc (Nat.le_refl _) _).cell (p := ⟨w.heap.size, 0, none⟩) (by simp)).trans (box2 w _ _ _).1
      · simp
      rintro w1 ⟨hs1, hs1', hb0, hb1, hbel, hsz⟩
      go_loopw [4, 23] (fun r i wr => ∃ k : Nat, k ≤ n ∧ i = .int .i64 k ∧ r = .bool false ∧ Below w1.heap.size w1 wr ∧ Hid (l.take k = l'.take k)) (fun _ i _ => n - (intOf i).toNat)
      case atStart => exact ⟨0, by omega, rfl, rfl, Below.refl _ _, rfl⟩
      case round =>
        obtain ⟨k, hk, rfl, rfl, hbr, htk⟩ := hrel
        by_cases hlt : k < n
        · obtain ⟨b, off, z, rfl, hcell, hz0, hz1, HZ⟩ := (hs1.below hbr).byte hwf hlt
          obtain ⟨b', off', z', rfl, hcell', hz0', hz1', HZ'⟩ := (hs1'.below hbr).byte hwf' hlt
          have c0 : wr.cell? ⟨w.heap.size, 0, none⟩ = some (.slice (some ⟨b, off, none⟩) n c) := (hbr.cell (by show w.heap.size < _; omega)).trans hb0
          have c1 : wr.cell? ⟨w.heap.size + 1, 0, none⟩ = some (.slice (some ⟨b', off', none⟩) n c') := (hbr.cell (by show w.heap.size + 1 < _; omega)).trans hb1
          have hk1 : (k : Int) < n := by omega
          by_cases hzz : z = z'
          · have HS := same_step htk (by rw [HL.out]; exact hlt) (by rw [HL'.out]; exact hlt) (by rw [HZ.out, HZ'.out, hzz])
            have t3 : (z != z') = false := by simp [hzz]
            clear hzz
            go_wp2
            go_quiet (fail)
            go_wp2
            go_roundw
            case rel => exact ⟨k + 1, by omega, by go_num, rfl, by first | exact hbr | exact hbr.drew | exact below_drewN hbr _, HS⟩
            case measure => simp [intOf]; omega
          · have HF : Hid (sameB l l' N N = false) := by
              show _ = _
              apply decide_eq_false
              rintro ⟨rfl, _⟩
              exact hzz (HZ.out.symm.trans HZ'.out)
            have t3 : (z != z') = true := by simp [hzz]
            clear hzz
            go_wp2
            go_quiet (fail)
            go_wp2
            go_ret
            exact ⟨ret_bool HF.out.symm, hbel.trans ((by first | exact below_drewN hbr _ | exact hbr.drew | exact hbr : Below w1.heap.size w1 _).mono hbel.size)⟩
        · have HT : Hid (sameB l l' N N = true) := by
            show _ = _
            apply decide_eq_true
            refine ⟨?_, rfl⟩
            have := htk.out
            rwa [List.take_of_length_le (by rw [HL.out]; omega), List.take_of_length_le (by rw [HL'.out]; omega)] at this
          go_wp2
          go_ret
          exact ⟨ret_bool HT.out.symm, hbel.trans (hbr.mono hbel.size)⟩
    · have HF : Hid (sameB l l' N N' = false) := by
        show _ = _
        apply decide_eq_false
        rintro ⟨rfl, _⟩
        omega
      clear hlen hlen'
      subst h1
      have t1 : (N != N) = false := by simp
      have t2 : ((n : Int) != (n' : Int)) = true := by rw [bne_iff_ne]; omega
      clear h2
      go_enter Tryd.func18, Tryd.ntmps18
      go_wp2
      go_ret
      exact ⟨ret_bool HF.out.symm, ((Below.refl _ _).alloc (Nat.le_refl _) _).alloc (by simp) _⟩
  · have HF : Hid (sameB l l' N N' = false) := decide_eq_false (fun h => h1 h.2)
    have t1 : (N != N') = true := by rw [bne_iff_ne]; exact h1
    clear hlen hlen' h1
    go_enter Tryd.func18, Tryd.ntmps18
    go_wp2
    go_ret
    exact ⟨ret_bool HF.out.symm, ((Below.refl _ _).alloc (Nat.le_refl _) _).alloc (by simp) _⟩

def sI (s : List Bool) : List Int := s.map fun b => if b then 49 else 48
theorem bstr_sI (s : List Bool) : bstr (sI s) = sbits s := by
  unfold bstr sI sbits
  rw [List.map_map]
  congr 2
  apply List.map_congr_left
  intro b _
  cases b <;> rfl
theorem sI_snoc (s : List Bool) (b : Bool) : sI (s ++ [b]) = sI s ++ [if b then 49 else 48] := by simp [sI]
theorem unpack_snoc (l : List Int) (k : Nat) : unpack l (k + 1) = unpack l k ++ [bitAt l k] := by simp [unpack, List.range_succ]
theorem bit_char (l : List Int) (z : Int) (k : Nat) (h0 : 0 ≤ z) (HZ : Hid (l.getD (k / 8) 0 = z)) : 48 + z / 2 ^ (7 - k % 8) % 2 = if bitAt l k then 49 else 48 := by
  have h := bit_test l z k h0 HZ
  rw [Int.tmod_eq_emod_of_nonneg (Int.ediv_nonneg h0 (Int.le_of_lt (two_pow_pos _)))] at h
  generalize z / 2 ^ (7 - k % 8) = q at *
  rcases (show q % 2 = 0 ∨ q % 2 = 1 by omega) with e | e
  · rw [e] at h ⊢; rw [← h]; rfl
  · rw [e] at h ⊢; rw [← h]; rfl

set_option maxHeartbeats 1000000 in
theorem unpacked_any (v : Value) (l : List Int) (N : Nat) (w : World) (hv : BitsV w v l N) (hok : okB l N) (hN : N ≤ 100000000) :
    Calls Tryd.prog 26 #[v] w fun e w' => e = .returned (.string (sbits (unpack l N))) ∧ Below w.heap.size w w' := by
  obtain ⟨b, n, rfl, hs, hl, hwf, hn, hN0, hN1⟩ := hv
  obtain ⟨ao, c, rfl, hnc, hc, hlen⟩ := hs.shape
  have hlen : l.length = n := by simpa using hlen
  have hNn : N ≤ 8 * n := by have := hok.2.1; omega
  have HL := Lib.hid hlen
  clear hlen hok
  go_enter Tryd.func26, Tryd.ntmps26
  go_upto_region 1 with (fail)
  refine wp_abs (fun w1 => Sl w1 1 (.slice ao n c) n (l.map (Value.int .u8)) ∧ w1.cell? ⟨w.heap.size, 0, none⟩ = some (.slice ao n c) ∧ w1.cell? ⟨w.heap.size, 1, none⟩ = some (.int .i64 N) ∧ Below w.heap.size w w1 ∧ w.heap.size < w1.heap.size) ⟨hs.alloc _, (box2 w _ _ _).1, (box2 w _ _ _).2, (Below.refl _ _).alloc (Nat.le_refl _) _, by simp⟩ ?_
  rintro w1 ⟨hs1, hb0, hb1, hbel0, hsz0⟩
  go_wp2_with (at_make; refine make0 elU8 rfl _ _ rfl .i64 .i64 _ N rfl rfl rfl ?c1 ?c2 (Below.refl w1.heap.size w1) ?c3 ?_)
  case c1 => omega
  case c2 => omega
  case c3 => simp
  intro w2 hown hbel hgr
  have hb1' := (hbel.cell (p := ⟨w.heap.size, 1, none⟩) hsz0).trans hb1
  go_wp2_with fail
  go_loopw [3, 10] (fun v i wr => ∃ (k : Nat), k ≤ N ∧ i = .int .i64 k ∧ wr.ownsRow w1.heap.size 5 1 v k ((sI (unpack l k)).map (Value.int .u8)) ∧ Below w1.heap.size w1 wr) (fun _ i _ => N - (intOf i).toNat)
  case atStart => exact ⟨0, by omega, rfl, hown, hbel⟩
  case round =>
    clear hown hbel hgr
    obtain ⟨k, hk, rfl, hown, hbel⟩ := hrel
    have hsz := hbel.size
    by_cases hlt : k < N
    · obtain ⟨b, off, z, rfl, hcell, hz0, hz1, HZ⟩ := (hs1.below hbel).byte hwf (show k / 8 < n by omega)
      have c0 := (hbel.cell (p := ⟨w.heap.size, 0, none⟩) hsz0).trans hb0
      have hch := Lib.hid (bit_char l z k hz0 HZ)
      have hq : 0 ≤ z / 2 ^ (7 - k % 8) := Int.ediv_nonneg hz0 (Int.le_of_lt (two_pow_pos _))
      go_wp2_with (at_builtin; refine append1 [_] elU8 rfl _ _ rfl hown hbel hsz rfl rfl rfl (one_all _ rfl) ?c4 ?c5 ?_)
      case c4 => omega
      case c5 => omega
      intro v' w2 hown' hbel' _
      rw [hch.out] at hown'
      have hown2 : w2.ownsRow w1.heap.size 5 1 v' (k + 1) ((sI (unpack l (k + 1))).map (Value.int .u8)) := by
        rw [unpack_snoc, sI_snoc, List.map_append]
        exact hown'
      clear hown' hown hbel
      go_wp2
      go_roundw
      case rel => exact ⟨k + 1, by omega, by go_num, hown2, hbel'⟩
      case measure => simp [intOf]; omega
    · obtain rfl : k = N := by omega
      have hcv := run_bytes (dst := 9) Tryd.underlying23 Tryd.underlying5 Tryd.underlying9 (own_sl hown)
      rw [bstr_sI] at hcv
      have hfin := hbel0.trans (hbel.mono hbel0.size)
      clear hown hbel
      go_wp2
      go_ret
      exact ⟨rfl, hfin⟩
end Go.Proofs.YtbifhmbfmoeofaaDoor.Bits
/-
  The walk of (*Writer).Put: bits are put behind bits.
-/
namespace Go.Proofs.YtbifhmbfmoeofaaDoor.Bits
open Go.RowKit Go.Gh Go.WideShapes
set_option linter.unusedVariables false

def WInv (w : World) (B wb : Nat) (s : List Bool) : Prop :=
  ∃ v, w.heap[wb]? = some (.cells #[v, .int .i64 s.length] 74 (0, 0)) ∧ w.ownsRow B 5 1 v (pack s).length ((pack s).map (Value.int .u8))

/-- Whatever block but wb that holds cells of another type than T lies as it lay. -/
def Keep (T : TypeId) (wb : Nat) (w w' : World) : Prop := ∀ x cs e fr, w.heap[x]? = some (.cells cs e fr) → x ≠ wb → e ≠ T → w'.heap[x]? = some (.cells cs e fr)
theorem Keep.refl (T : TypeId) (wb : Nat) (w : World) : Keep T wb w w := fun _ _ _ _ h _ _ => h
theorem Keep.trans {T : TypeId} {wb : Nat} {a b c : World} (h : Keep T wb a b) (k : Keep T wb b c) : Keep T wb a c := fun x cs e fr hx hne he => k x cs e fr (h x cs e fr hx hne he) hne he
theorem Keep.setBox {T : TypeId} {wb : Nat} {w w' : World} (h : Keep T wb w w') (i : Nat) (u : Value) : Keep T wb w (w'.setCell ⟨wb, i, none⟩ u) := fun x cs e fr hx hne he => row_setCell_other u (h x cs e fr hx hne he) hne
theorem Keep.setOwn {T : TypeId} {wb B size n g cap : Nat} {xs : List Value} {w w' : World} (h : Keep T wb w w') (hown : w'.ownsRow B T size (.slice (some ⟨g, 0, none⟩) n cap) n xs) (i : Nat) (u : Value) : Keep T wb w (w'.setCell ⟨g, i, none⟩ u) := fun x cs e fr hx hne he => by
  have h1 := h x cs e fr hx hne he
  have h2 := own_block_ne hown h1 (Ne.symm he)
  exact row_setCell_other u h1 (fun hg => h2 (by rw [hg]; rfl))
theorem Keep.grown {T : TypeId} {wb B size n : Nat} {v : Value} {xs : List Value} {w w' w2 : World} (h : Keep T wb w w') (hown : w'.ownsRow B T size v n xs) (hg : w'.grownBy w2 v.ownBlock) : Keep T wb w w2 := fun x cs e fr hx hne he => by
  have h1 := h x cs e fr hx hne he
  exact grown_block2 hg (own_block_ne hown h1 (Ne.symm he)) h1
theorem byte_low (s : List Bool) : byteAt s (s.length / 8) % 2 ^ (8 - s.length % 8) = 0 := by
  rw [← low_bits']
  intro j hj
  have := bit_byteAt s (s.length / 8) (7 - j) (by omega)
  rw [show 7 - (7 - j) = j from by omega] at this
  rw [this, List.getD_eq_getElem?_getD, List.getElem?_eq_none (by omega)]
  rfl

theorem or_bit (z bt : Int) (p : Nat) (hz0 : 0 ≤ z) (hz1 : z < 256) (hzl : z % 2 ^ (p + 1) = 0) (hb0 : 0 ≤ bt) (hb1 : bt ≤ 1) (hp : p < 8) : bits .or .u8 z (bt * 2 ^ p % 256) = z + bt * 2 ^ p := by
  have h1 : (2 : Int) ^ p ≤ 128 := by
    rw [two_pow_cast]
    have h1 : 2 ^ p ≤ 2 ^ 7 := Nat.pow_le_pow_right (by decide) (by omega)
    have h2 : 2 ^ 7 = 128 := by decide
    omega
  have h2 := two_pow_pos p
  have h3 : bt * 2 ^ p = 0 ∨ bt * 2 ^ p = 2 ^ p := by
    rcases (show bt = 0 ∨ bt = 1 by omega) with h | h
    · left; rw [h, Int.zero_mul]
    · right; rw [h, Int.one_mul]
  have hle : 0 ≤ bt * 2 ^ p ∧ bt * 2 ^ p ≤ 2 ^ p := by rcases h3 with h | h <;> omega
  generalize bt * 2 ^ p = y at *
  have e : y % 256 = y := by omega
  rw [e, u8_or z y hz0 hz1 (by omega) (by omega), nat_join (p + 1)]
  · omega
  · obtain ⟨n, rfl⟩ := Int.eq_ofNat_of_zero_le hz0
    rw [two_pow_cast] at hzl
    rw [Int.toNat_natCast]
    omega
  · have : 2 ^ p < 2 ^ (p + 1) := Nat.pow_lt_pow_right (by decide) (by omega)
    rw [two_pow_cast] at hle
    omega
theorem winv_step {w : World} {B wb g cap j p : Nat} {t : List Bool} {b : Bool} {z bt : Int} (hx : w.heap[wb]? = some (.cells #[.slice (some ⟨g, 0, none⟩) (room t).length cap, .int .i64 t.length] 74 (0, 0)))
    (hown : w.ownsRow B 5 1 (.slice (some ⟨g, 0, none⟩) (room t).length cap) (room t).length ((room t).map (Value.int .u8))) (hne : g ≠ wb)
    (hp : pack (t ++ [b]) = (room t).set (t.length / 8) (z + b2i b * 2 ^ (7 - t.length % 8))) (hj : t.length / 8 = j) (hpp : 7 - t.length % 8 = p) (hb : b2i b = bt) (hjl : j < (room t).length) :
    WInv ((w.setCell ⟨g, j, none⟩ (.int .u8 (z + bt * 2 ^ p))).setCell ⟨wb, 1, none⟩ (.int .i64 ((t.length : Int) + 1))).drew B wb (t ++ [b]) := by
  have h1 := row_setCell_other (i := j) (.int .u8 (z + bt * 2 ^ p)) hx (Ne.symm hne)
  have h2 := row_setCell 1 (.int .i64 ((t.length : Int) + 1)) h1
  have h3 := (hown.stored j (.int .u8 (z + bt * 2 ^ p))).1
  have h4 := ownsRow_setCell_other h3 (a := ⟨wb, 1, none⟩) (by simp [Value.ownBlock]; exact hne) (.int .i64 ((t.length : Int) + 1))
  refine ⟨.slice (some ⟨g, 0, none⟩) (room t).length cap, ?_, ?_⟩
  · have e : ((t ++ [b]).length : Int) = (t.length : Int) + 1 := by simp
    rw [e]
    exact h2
  · have h5 := h4.drew
    have e : pack (t ++ [b]) = (room t).set j (z + bt * 2 ^ p) := by rw [hp, hj, hpp, hb]
    rw [e, List.length_set, List.map_set]
    exact h5
theorem bit_and (v : Int) (k : Nat) (h0 : 0 ≤ v) (h1 : v < 18446744073709551616) : IntKind.u8.wrap (bits .and .u64 (v / 2 ^ k) 1) = b2i (bitI v k) := by
  have hq : 0 ≤ v / 2 ^ k := Int.ediv_nonneg h0 (Int.le_of_lt (two_pow_pos _))
  have hle : v / 2 ^ k ≤ v := Int.ediv_le_self _ h0
  rw [and_one _ hq (by omega), IntKind.wrap_u8']
  unfold bitI
  generalize v / 2 ^ k = q
  rcases (show q % 2 = 0 ∨ q % 2 = 1 by omega) with h | h <;> rw [h] <;> rfl
set_option maxRecDepth 100000 in
set_option maxHeartbeats 1000000 in
theorem wput_any (v : Int) (n : Nat) (s : List Bool) (B wb : Nat) (w : World) (h0 : 0 ≤ v) (h1 : v < 18446744073709551616) (hn : n ≤ 64) (hs : s.length ≤ 1000000) (hB : B ≤ wb) (hinv : WInv w B wb s) :
    Calls Tryd.prog 35 #[.pointer (some ⟨wb, 0, none⟩), .int .u64 v, .int .i64 n] w fun e w' => e = .returned (.tuple #[]) ∧ WInv w' B wb (s ++ signs v n) ∧ Below B w w' ∧ Keep 5 wb w w' := by
  go_enter Tryd.func35, Tryd.ntmps35
  go_wp2_with fail
  go_loopw [2] (fun i wr => ∃ (m : Nat) (t : List Bool), m ≤ n ∧ i = .int .i64 ((m : Int) - 1) ∧ t.length ≤ 2000000 ∧ WInv wr B wb t ∧ Below B w wr ∧ Hid (t ++ signs v m = s ++ signs v n) ∧ Hid (t.length + m = s.length + n) ∧ Hid (Keep 5 wb w wr)) (fun i _ => (intOf i + 1).toNat)
  case atStart => exact ⟨n, s, by omega, rfl, by omega, hinv, Below.refl _ _, rfl, rfl, Lib.hid (Keep.refl _ _ _)⟩
  case round =>
    obtain ⟨m, t, hm, rfl, ht, ⟨vB, hx, hown⟩, hbel, hst, hlen, HKP⟩ := hrel
    cases m with
    | zero =>
      have hfin : WInv wr B wb (s ++ signs v n) := by rw [← hst.out, signs, List.append_nil]; exact ⟨vB, hx, hown⟩
      have hneg : ((0 : Nat) : Int) - 1 < 0 := by omega
      go_wp2
      go_end0
      exact ⟨rfl, hfin, hbel, HKP.out⟩
    | succ k =>
      have e1 : ((k + 1 : Nat) : Int) - 1 = k := by omega
      rw [e1]
      have c1 : wr.cell? ⟨wb, 1, none⟩ = some (.int .i64 t.length) := (row_cell 1 _ hx rfl).1
      have hsz : B ≤ wr.heap.size := by have := (Array.getElem?_eq_some_iff.1 hx).1; omega
      have hpl : (pack t).length ≤ 1000000 := by rw [pack_len]; omega
      have hrl := room_len t
      by_cases hN : t.length % 8 = 0
      case' pos =>
        have t1 : ((t.length : Int) % 8 == 0) = true := by simp; omega
        have c0 : wr.cell? ⟨wb, 0, none⟩ = some vB := (row_cell 0 _ hx rfl).1
        have hne := own_block_ne hown hx (by decide)
        have HR : Hid (room t = pack t ++ [0]) := if_pos hN
        have HRL := Lib.hid hrl
        clear hrl
        go_upto_region 5 with (at_builtin; refine append1 [.int .u8 0] elU8 rfl _ _ rfl hown hbel hsz rfl rfl rfl (one_all _ rfl) (by omega) (by omega) ?_; intro v' w2 hown' hbel' hgr'; obtain ⟨g, cap, rfl, hg1, hg2, hc1, hc2, hcells⟩ := own_some hown' (by omega); have hx2 := grown_block2 hgr' hne hx; have c2 := (row_cell 0 _ hx2 rfl).1; have f2 := (row_cell 0 _ hx2 rfl).2)
        refine wp_abs (fun w3 => ∃ g cap, w3.heap[wb]? = some (.cells #[.slice (some ⟨g, 0, none⟩) (room t).length cap, .int .i64 t.length] 74 (0, 0)) ∧ w3.ownsRow B 5 1 (.slice (some ⟨g, 0, none⟩) (room t).length cap) (room t).length ((room t).map (Value.int .u8)) ∧ Below B w w3 ∧ Hid (Keep 5 wb w w3)) ?_ ?_
        · refine ⟨g, cap, ?_, ?_, hbel'.setCell (p := ⟨wb, 0, none⟩) hB _, Lib.hid ((HKP.out.grown hown hgr').setBox 0 _)⟩
          · have := row_setCell 0 (.slice (some ⟨g, 0, none⟩) ((pack t).length + 1) cap) hx2
            rw [HR.out, List.length_append]
            exact this
          · have h7 := own_block_ne hown' hx2 (by decide)
            have := ownsRow_setCell_other hown' (a := ⟨wb, 0, none⟩) h7 (.slice (some ⟨g, 0, none⟩) ((pack t).length + 1) cap)
            rw [HR.out, List.length_append, List.map_append]
            exact this
        rintro w3 ⟨g3, cap3, hx3, hown3, hbel3, HKP3⟩
        clear c0 c1 hown hbel hx
      case' neg =>
        have t1 : ((t.length : Int) % 8 == 0) = false := by simp; omega
        have HR : Hid (room t = pack t) := if_neg hN
        have HRL := Lib.hid hrl
        clear hrl
        go_upto_region 5 with (fail)
        refine wp_abs (fun w3 => ∃ g cap, w3.heap[wb]? = some (.cells #[.slice (some ⟨g, 0, none⟩) (room t).length cap, .int .i64 t.length] 74 (0, 0)) ∧ w3.ownsRow B 5 1 (.slice (some ⟨g, 0, none⟩) (room t).length cap) (room t).length ((room t).map (Value.int .u8)) ∧ Below B w w3 ∧ Hid (Keep 5 wb w w3)) ?_ ?_
        · obtain ⟨g, cap, rfl, _⟩ := own_some hown (by rw [pack_len]; omega)
          rw [HR.out]
          exact ⟨g, cap, hx, hown, hbel, HKP⟩
        rintro w3 ⟨g3, cap3, hx3, hown3, hbel3, HKP3⟩
        clear c1 hown hbel hx
      all_goals
        have c0 : w3.cell? ⟨wb, 0, none⟩ = some (.slice (some ⟨g3, 0, none⟩) (room t).length cap3) := (row_cell 0 _ hx3 rfl).1
        have c1 : w3.cell? ⟨wb, 1, none⟩ = some (.int .i64 t.length) := (row_cell 1 _ hx3 rfl).1
        have cz : w3.cell? ⟨g3, t.length / 8, none⟩ = some (.int .u8 (byteAt t (t.length / 8))) := by
          rw [hown3.cellAt _ (by rw [HRL.out]; omega)]
          have := room_get t
          rw [List.getD_eq_getElem?_getD, List.getElem?_eq_getElem (by rw [HRL.out]; omega)] at this
          rw [List.getElem?_map, List.getElem?_eq_getElem (by rw [HRL.out]; omega)]
          simp at this
          simp [this]
        have fz := hown3.frozenAt (t.length / 8)
        have hi1 : t.length / 8 < (room t).length := by rw [HRL.out]; omega
        have hzl := byte_low t
        have hzb := byteAt_bd t (t.length / 8)
        have HPS := Lib.hid (pack_snoc t (bitI v k))
        generalize byteAt t (t.length / 8) = z at *
        have f1 : w3.frozen? ⟨wb, 1, none⟩ = false := frozen_of_row w3 wb 1 _ _ hx3
        obtain ⟨j, hj⟩ : ∃ j, t.length / 8 = j := ⟨_, rfl⟩
        obtain ⟨p, hp⟩ : ∃ p, 7 - t.length % 8 = p := ⟨_, rfl⟩
        have r1 : IntKind.i64.wrap ((t.length : Int) / 8) = (j : Int) := by rw [IntWalk.i64_in _ (by omega)]; omega
        have r2 : IntKind.i64.wrap (7 - (t.length : Int) % 8) = (p : Int) := by rw [IntWalk.i64_in _ (by omega)]; omega
        have r3 : IntKind.i64.wrap (7 - (t.length : Int).tmod 8) = (p : Int) := by rw [Int.tmod_eq_emod_of_nonneg (by omega)]; exact r2
        obtain ⟨bt, hbt⟩ : ∃ bt, b2i (bitI v k) = bt := ⟨_, rfl⟩
        have r4 : IntKind.u8.wrap (bits .and .u64 (v / 2 ^ k) 1) = bt := by rw [← hbt]; exact bit_and v k h0 h1
        have hb0 : 0 ≤ bt ∧ bt ≤ 1 := by rw [← hbt]; exact b2i_bd _
        have HBT := Lib.hid hbt
        clear hbt r2
        have HJ := Lib.hid hj
        have HP := Lib.hid hp
        rw [hj] at cz fz hi1
        have hi2 : (j : Int) < (room t).length := by omega
        have hp8 : p < 8 := by omega
        have HOR : Hid (bits .or .u8 z (bt * 2 ^ p % 256) = z + bt * 2 ^ p) := or_bit z bt p hzb.1 hzb.2 (by rw [show p + 1 = 8 - t.length % 8 by omega]; exact hzl) hb0.1 hb0.2 hp8
        clear hj hp hzl
        have hg3B : B ≤ g3 := (hown3.lt g3 rfl).1
        have hne3 : wb ≠ g3 := by
          intro h
          have := own_block_ne hown3 hx3 (by decide)
          exact this (by rw [h]; rfl)
        have hne4 : g3 ≠ wb := fun h => hne3 h.symm
        go_still_tail 28, (by kernel_rfl)
        change wpList _ _ _ _ _ w3.drew
        go_wp2
        go_roundw
        case rel =>
          refine ⟨k, t ++ [bitI v k], by omega, rfl, by have := hlen.out; simp; omega, ?_, ?_, ?_, ?_, Lib.hid ((HKP3.out.setOwn hown3 j _).setBox 1 _)⟩
          · rw [HOR.out]
            exact winv_step hx3 hown3 hne4 HPS.out HJ.out HP.out HBT.out (by omega)
          · exact ((hbel3.setCell (p := ⟨g3, j, none⟩) hg3B _).setCell (p := ⟨wb, 1, none⟩) hB _).drew
          · show _ = _
            rw [← hst.out, List.append_assoc]
            rfl
          · show _ = _
            have := hlen.out
            simp; omega
        case measure => first | (simp [intOf]; done) | (simp [intOf]; omega)
end Go.Proofs.YtbifhmbfmoeofaaDoor.Bits
