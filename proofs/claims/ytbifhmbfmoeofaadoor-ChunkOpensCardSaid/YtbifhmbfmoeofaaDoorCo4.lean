/-
  The walk of MeasureSigns.
-/
import Derived.Test.YtbifhmbfmoeofaaDoorCo1
import Derived.Test.YtbifhmbfmoeofaaDoorCo2
import Derived.Test.YtbifhmbfmoeofaaDoorCo3
import Derived.IntWalk
namespace Go.Proofs.YtbifhmbfmoeofaaDoor.Xor
open Go.RowKit Go.Gh Go.Proofs.YtbifhmbfmoeofaaDoor.Bits
set_option linter.unusedVariables false
theorem xor_nat (a b : Int) (ha : 0 ≤ a) (ha1 : a < 18446744073709551616) (hb : 0 ≤ b) (hb1 : b < 18446744073709551616) : ∃ x : Nat, bits .xor .u64 a b = (x : Int) ∧ x < 18446744073709551616 := by
  obtain ⟨p, rfl⟩ := Int.eq_ofNat_of_zero_le ha
  obtain ⟨q, rfl⟩ := Int.eq_ofNat_of_zero_le hb
  exact ⟨p ^^^ q, bits_xor_u64_nat p q (by omega) (by omega), Nat.xor_lt_two_pow (n := 64) (by omega) (by omega)⟩
theorem sbits_mid (s : List Bool) (a b : Nat) : (sbits s).extract a b = sbits ((s.drop a).take (b - a)) := by
  unfold sbits
  rw [ByteArray.extract_mk, List.map_take, List.map_drop]
theorem sx0 : (⟨#[48]⟩ : ByteArray) = sbits [false] := rfl
theorem sx10 : (⟨#[49, 48]⟩ : ByteArray) = sbits [true, false] := rfl
theorem sx11 : (⟨#[49, 49]⟩ : ByteArray) = sbits [true, true] := rfl
theorem put0 (s : List Bool) (ld tl : Int) : putX s ld tl 0 = (s ++ [false], ld, tl) := by unfold putX; rw [if_pos rfl]
theorem put10 {s : List Bool} {ld tl T : Int} (h : T ≠ 0) (hw : 0 ≤ ld ∧ ld ≤ leadF T ∧ tl ≤ tailF T) : putX s ld tl T = (s ++ [true, false] ++ midB T ld.toNat tl.toNat, ld, tl) := by unfold putX; rw [if_neg h, if_pos hw]
theorem put11 {s : List Bool} {ld tl T : Int} (h : T ≠ 0) (hw : ¬ (0 ≤ ld ∧ ld ≤ leadF T ∧ tl ≤ tailF T)) : putX s ld tl T = (s ++ [true, true] ++ signs (leadF T) 6 ++ signs (63 - leadF T - tailF T) 6 ++ midB T (leadF T) (tailF T), (leadF T : Int), (tailF T : Int)) := by unfold putX; rw [if_neg h, if_neg hw]
set_option maxHeartbeats 12000000 in
set_option maxRecDepth 100000 in
theorem measuresigns_any (v : Value) (n : Nat) (l : List Int) (w : World) (hs : Sl w 1 v n (l.map (Value.int .u64))) (hl : l.length = n) (hwf : ∀ z ∈ l, (Lit.int .u64 z).wf = true) (hn : n ≤ 1000) :
    Calls Tryd.prog 22 #[v] w fun e w' => e = .returned (.string (sbits (msTo l n).1)) ∧ Below w.heap.size w w' := by
  obtain ⟨ao, c, rfl, hnc, hc, _⟩ := hs.shape
  have HL := Lib.hid hl
  have HWF := Lib.hid hwf
  have hu0 : (0 : Int) ≤ n := by omega
  have hu1 : (n : Int) < 18446744073709551616 := by omega
  have h0 : sbits (signs (n : Int) 16) = sbits (msTo l 0).1 := by rw [ms_zero, hl]
  have H0 := Lib.hid h0
  have hsz0 : (sbits (signs (n : Int) 16)).size ≤ 80 := by rw [sbits_size, signs_len]; omega
  clear hl hwf h0
  go_enter Tryd.func22, Tryd.ntmps22
  go_wp2_with (go_at_call 38; refine (signs_any (n : Int) 16 hu0 hu1 (by omega) _).mono ?_; rintro e w1 ⟨rfl, rfl⟩)
  go_loopw [3, 4, 5, 17] (fun s ul ut i wr => ∃ (k : Nat) (S : ByteArray) (LD TL : Int), k ≤ n ∧ i = .int .i64 k ∧ s = .string S ∧ ul = .int .i64 LD ∧ ut = .int .i64 TL ∧ S.size ≤ 80 + 78 * k ∧ Hid (S = sbits (msTo l k).1) ∧ Hid ((msTo l k).2 = (LD, TL)) ∧ Hid (winOk LD TL) ∧ Below w.heap.size w wr) (fun _ _ _ i _ => n - (intOf i).toNat)
  case atStart => exact ⟨0, _, -1, -1, by omega, rfl, rfl, rfl, rfl, by omega, H0, Lib.hid rfl, Lib.hid (Or.inl ⟨rfl, rfl⟩), Below.refl _ _⟩
  case round =>
    obtain ⟨k, S, LD, TL, hk, rfl, rfl, rfl, rfl, hS1, HS, HW, HWIN, hbr⟩ := hrel
    by_cases hlt : k < n
    · obtain ⟨b, off, rfl, hck⟩ := (hs.below hbr).int (i := k) hlt
      have hk1 : k < l.length := by rw [HL.out]; exact hlt
      have hwk := wf_u64 (HWF.out (l.getD k 0) (by rw [List.getD_eq_getElem?_getD, List.getElem?_eq_getElem hk1]; exact List.getElem_mem _))
      obtain ⟨t, ht⟩ : ∃ t, l.getD k 0 = t := ⟨_, rfl⟩
      rw [ht] at hck hwk
      have HT := Lib.hid ht
      clear ht hk1
      by_cases h0 : k = 0
      · have HN : Hid (S ++ sbits (signs t 64) = sbits (msTo l (k + 1)).1) := by
          show _ = _
          have h := HS.out
          have h2 := HT.out
          subst h0
          rw [h, ms_first, ms_zero, h2, sbits_append]
        have HW2 : Hid ((msTo l (k + 1)).2 = (LD, TL)) := by
          show _ = _
          have h := HW.out
          subst h0
          rw [← h]; rfl
        have hsz : (sbits (signs t 64)).size = 64 := by rw [sbits_size, signs_len]
        have e0 : ((k : Int) == 0) = true := by rw [h0]; rfl
        have hk0 : k ≤ 0 := by omega
        clear h0
        go_wp2_with (go_at_call 38; refine (signs_any t 64 hwk.1 hwk.2 (by omega) _).mono ?_; rintro e w1 ⟨rfl, rfl⟩)
        go_roundw
        case rel => exact ⟨k + 1, _, LD, TL, by omega, by go_num, rfl, rfl, rfl, by rw [ByteArray.size_append]; omega, HN, HW2, HWIN, hbr⟩
        case measure => simp [intOf]; omega
      · obtain ⟨j, rfl⟩ : ∃ j, k = j + 1 := ⟨k - 1, by omega⟩
        clear h0 hu0 hu1 hsz0
        obtain ⟨b', off', hbo, hcj⟩ := (hs.below hbr).int (i := j) (by omega)
        simp only [Option.some.injEq, Addr.mk.injEq, and_true] at hbo
        obtain ⟨rfl, rfl⟩ := hbo
        obtain ⟨P, hP⟩ : ∃ t, l.getD j 0 = t := ⟨_, rfl⟩
        have hj1 : j < l.length := by rw [HL.out]; omega
        have hwj := wf_u64 (HWF.out (l.getD j 0) (by rw [List.getD_eq_getElem?_getD, List.getElem?_eq_getElem hj1]; exact List.getElem_mem _))
        rw [hP] at hcj hwj
        have HP := Lib.hid hP
        obtain ⟨x, hx, hxb⟩ := xor_nat t P hwk.1 hwk.2 hwj.1 hwj.2
        have HNX : Hid (msTo l (j + 1 + 1) = putX (msTo l (j + 1)).1 LD TL (x : Int)) := by
          show _ = _
          rw [ms_next, HT.out, hP, HW.out]
          unfold xorI
          rw [hx]
        clear hP hj1
        have e0 : (((j + 1 : Nat) : Int) == 0) = false := beq_eq_false_iff_ne.2 (by omega)
        have e0' : ((j : Int) + 1 == 0) = false := beq_eq_false_iff_ne.2 (by omega)
        have i0 : ((j + 1 : Nat) : Int) - 1 = (j : Int) := by omega
        obtain ⟨A, hA⟩ : ∃ A, leadF (x : Int) = A := ⟨_, rfl⟩
        obtain ⟨B, hB⟩ : ∃ B, tailF (x : Int) = B := ⟨_, rfl⟩
        have HA := Lib.hid hA
        have HB := Lib.hid hB
        have HA' : Hid (runF (signs (x : Int) 64) = A) := hA
        have HB' : Hid (runF (signs (x : Int) 64).reverse = B) := hB
        have hx0 : (0 : Int) ≤ x := by omega
        have hx1 : (x : Int) < 18446744073709551616 := by omega
        clear hA hB
        have HX := Lib.hid hx
        clear hx i0 hx0 hx1
        go_wp2_with fail
        rw [HX.out]
        refine (signs_any (x : Int) 64 (by omega) (by omega) (by decide) _).mono ?_
        rintro e w1 ⟨rfl, rfl⟩
        go_wp2_with fail
        refine (run_any (signs (x : Int) 64) (by rw [signs_len]; decide) _).mono ?_
        rw [HA'.out]
        rintro e w1 ⟨rfl, rfl⟩
        go_wp2_with fail
        refine (backward_any (signs (x : Int) 64) (by rw [signs_len]; decide) _).mono ?_
        rintro e w1 ⟨rfl, rfl⟩
        go_wp2_with fail
        refine (run_any (signs (x : Int) 64).reverse (by rw [List.length_reverse, signs_len]; decide) _).mono ?_
        rw [HB'.out]
        rintro e w1 ⟨rfl, rfl⟩
        clear HX HA' HB' hck hcj hwk hwj e0 e0' HT HP
        have hturn : (sbits (signs (x : Int) 64)).size = 64 := by rw [sbits_size, signs_len]
        by_cases hz : x = 0
        · have hA64 : A = 64 := by rw [← HA.out, hz]; exact lead_zero
          have HN : Hid (S ++ ⟨#[48]⟩ = sbits (msTo l (j + 1 + 1)).1) := by
            show _ = _
            rw [HNX.out, hz, sx0, HS.out, sbits_append]
            exact congrArg sbits (congrArg Prod.fst (put0 _ _ _)).symm
          have HW2 : Hid ((msTo l (j + 1 + 1)).2 = (LD, TL)) := by
            show _ = _
            rw [HNX.out, hz]
            exact congrArg Prod.snd (put0 _ _ _)
          have e64 : ((A : Int) == 64) = true := by rw [hA64]; rfl
          have hsz : (⟨#[48]⟩ : ByteArray).size = 1 := rfl
          clear hz hA64
          go_wp2_with fail
          go_roundw
          case rel => exact ⟨j + 1 + 1, _, LD, TL, by omega, by go_num, rfl, rfl, rfl, by simp only [ByteArray.size_append]; omega, HN, HW2, HWIN, hbr⟩
          case measure => simp [intOf]; omega
        · have hlt63 : A + B ≤ 63 := by rw [← HA.out, ← HB.out]; exact lead_tail hz hxb
          have hxne : (x : Int) ≠ 0 := by omega
          have e64 : ((A : Int) == 64) = false := beq_eq_false_iff_ne.2 (by omega)
          by_cases hw : 0 ≤ LD ∧ LD ≤ A ∧ TL ≤ B
          · obtain ⟨ld, rfl⟩ := Int.eq_ofNat_of_zero_le hw.1
            have hTL : 0 ≤ TL ∧ (ld : Int) + TL ≤ 63 := by
              rcases HWIN.out with h | h
              · omega
              · omega
            obtain ⟨tl, rfl⟩ := Int.eq_ofNat_of_zero_le hTL.1
            have hm1 : (ld : Int) ≤ 64 - (tl : Int) := by omega
            have hw2 : (ld : Int) ≤ A := hw.2.1
            have hw3 : (tl : Int) ≤ B := hw.2.2
            have HN : Hid (S ++ ⟨#[49, 48]⟩ ++ (sbits (signs (x : Int) 64)).extract ld (64 - tl) = sbits (msTo l (j + 1 + 1)).1) := by
              show _ = _
              rw [HNX.out, put10 hxne ⟨by omega, by rw [HA.out]; exact hw2, by rw [HB.out]; exact hw3⟩, sx10, sbits_mid, HS.out, sbits_append, sbits_append, mid_signs _ _ _ _ (by omega)]
              rfl
            have HW2 : Hid ((msTo l (j + 1 + 1)).2 = ((ld : Int), (tl : Int))) := by
              show _ = _
              rw [HNX.out, put10 hxne ⟨by omega, by rw [HA.out]; exact hw2, by rw [HB.out]; exact hw3⟩]
            have hse : ((sbits (signs (x : Int) 64)).extract ld (64 - tl)).size ≤ 64 := by rw [sbits_mid, sbits_size]; simp [signs_len]; omega
            have hsz : (⟨#[49, 48]⟩ : ByteArray).size = 2 := rfl
            clear hw
            go_wp2_with fail
            go_roundw
            case rel => exact ⟨j + 1 + 1, _, ld, tl, by omega, by go_num, rfl, rfl, rfl, by simp only [ByteArray.size_append]; omega, HN, HW2, HWIN, hbr⟩
            case measure => simp [intOf]; omega
          · have hnw : ¬ (0 ≤ LD ∧ LD ≤ leadF (x : Int) ∧ TL ≤ tailF (x : Int)) := by rw [HA.out, HB.out]; exact hw
            have HN : Hid (S ++ (⟨#[49, 49]⟩ ++ sbits (signs (A : Int) 6) ++ sbits (signs (63 - (A : Int) - B) 6)) ++ (sbits (signs (x : Int) 64)).extract A (64 - B) = sbits (msTo l (j + 1 + 1)).1) := by
              show _ = _
              rw [HNX.out, put11 hxne hnw, HA.out, HB.out, sx11, sbits_mid, HS.out]
              simp only [sbits_append]
              rw [mid_signs _ _ _ _ (by omega)]
              simp only [List.append_assoc]
              rfl
            have HW2 : Hid ((msTo l (j + 1 + 1)).2 = ((A : Int), (B : Int))) := by
              show _ = _
              rw [HNX.out, put11 hxne hnw, HA.out, HB.out]
            have HWIN2 : Hid (winOk (A : Int) (B : Int)) := Or.inr ⟨by omega, by omega, by omega⟩
            have hse : ((sbits (signs (x : Int) 64)).extract A (64 - B)).size ≤ 64 := by rw [sbits_mid, sbits_size]; simp [signs_len]; omega
            have hs1 : (sbits (signs (A : Int) 6)).size = 6 := by rw [sbits_size, signs_len]
            have hs2 : (sbits (signs (63 - (A : Int) - B) 6)).size = 6 := by rw [sbits_size, signs_len]
            have hsz : (⟨#[49, 49]⟩ : ByteArray).size = 2 := rfl
            have hm1 : (A : Int) ≤ 64 - (B : Int) := by omega
            have hcase : (LD = -1 ∧ TL = -1) ∨ (∃ ld tl : Nat, LD = ld ∧ TL = tl ∧ ¬ (ld : Int) ≤ A) ∨ (∃ ld tl : Nat, LD = ld ∧ TL = tl ∧ (ld : Int) ≤ A ∧ ¬ (tl : Int) ≤ B) := by
              rcases HWIN.out with h | h
              · exact Or.inl h
              · obtain ⟨ld, rfl⟩ := Int.eq_ofNat_of_zero_le h.1
                obtain ⟨tl, rfl⟩ := Int.eq_ofNat_of_zero_le h.2.1
                by_cases h1 : (ld : Int) ≤ A
                · exact Or.inr (Or.inr ⟨ld, tl, rfl, rfl, h1, fun h2 => hw ⟨h.1, h1, h2⟩⟩)
                · exact Or.inr (Or.inl ⟨ld, tl, rfl, rfl, h1⟩)
            clear hw hnw
            rcases hcase with ⟨rfl, rfl⟩ | ⟨ld, tl, rfl, rfl, hf⟩ | ⟨ld, tl, rfl, rfl, hf1, hf⟩
            all_goals
              go_wp2_with fail
              refine (signs_any (A : Int) 6 (by omega) (by omega) (by decide) _).mono ?_
              rintro e w1 ⟨rfl, rfl⟩
              go_wp2_with fail
              refine (signs_any (63 - (A : Int) - B) 6 (by omega) (by omega) (by decide) _).mono ?_
              rintro e w1 ⟨rfl, rfl⟩
              go_wp2_with fail
              go_roundw
              case rel => exact ⟨j + 1 + 1, _, A, B, by omega, by go_num, rfl, rfl, rfl, by simp only [ByteArray.size_append]; omega, HN, HW2, HWIN2, hbr⟩
              case measure => simp [intOf]; omega
    · obtain rfl : k = n := by omega
      have HE := HS.out
      go_wp2_with fail
      go_ret
      exact ⟨ret_str HS.out, hbr⟩
end Go.Proofs.YtbifhmbfmoeofaaDoor.Xor
/-
  The walk of xor.Pack.
-/
namespace Go.Proofs.YtbifhmbfmoeofaaDoor.Xor
open Go.RowKit Go.Gh Go.Proofs.YtbifhmbfmoeofaaDoor.Bits Go.Proofs.YtbifhmbfmoeofaaDoor.Delta
set_option linter.unusedVariables false

/-- What the window's block holds. -/
def winC (ld tl : Int) : Array Value := if 0 ≤ ld then #[.bool true, .int .i64 ld, .int .i64 tl] else #[.bool false, .int .i64 0, .int .i64 0]
def WinAt (w : World) (bX : Nat) (ld tl : Int) : Prop := w.heap[bX]? = some (.cells (winC ld tl) 83 (0, 0))
theorem winv_other {w : World} {B wb bX : Nat} {s : List Bool} {cs : Array Value} (h : WInv w B wb s) (hX : w.heap[bX]? = some (.cells cs 83 (0, 0))) (hne : bX ≠ wb) (i : Nat) (u : Value) : WInv (w.setCell ⟨bX, i, none⟩ u) B wb s := by
  obtain ⟨v, h1, h2⟩ := h
  exact ⟨v, row_setCell_other u h1 (Ne.symm hne), ownsRow_setCell_other h2 (a := ⟨bX, i, none⟩) (own_block_ne h2 hX (by decide)) u⟩
theorem box3_store {w : World} {B : Nat} {T : TypeId} {a b c : Value} (x0 x1 x2 : Value) (h : w.heap[B]? = some (.cells #[a, b, c] T (0, 0))) : (((w.setCell ⟨B, 0, none⟩ x0).setCell ⟨B, 1, none⟩ x1).setCell ⟨B, 2, none⟩ x2).heap[B]? = some (.cells #[x0, x1, x2] T (0, 0)) := by
  have h0 := row_setCell 0 x0 h
  have h1 := row_setCell 1 x1 h0
  have h2 := row_setCell 2 x2 h1
  simpa using h2
theorem frozen3 {w : World} {B : Nat} {T : TypeId} {a b c : Value} (h : w.heap[B]? = some (.cells #[a, b, c] T (0, 0))) : w.frozen? ⟨B, 0, none⟩ = false ∧ w.frozen? ⟨B, 1, none⟩ = false ∧ w.frozen? ⟨B, 2, none⟩ = false :=
  ⟨(row_cell 0 a h rfl).2, (row_cell 1 b h rfl).2, (row_cell 2 c h rfl).2⟩
theorem win_three (ld tl : Int) : ∃ a b c, winC ld tl = #[a, b, c] := by
  unfold winC
  split
  · exact ⟨_, _, _, rfl⟩
  · exact ⟨_, _, _, rfl⟩
theorem win_pos {w : World} {bX : Nat} {ld tl : Int} (h : WinAt w bX ld tl) (h0 : 0 ≤ ld) : w.heap[bX]? = some (.cells #[.bool true, .int .i64 ld, .int .i64 tl] 83 (0, 0)) := by
  unfold WinAt winC at h
  rwa [if_pos h0] at h
theorem win_neg {w : World} {bX : Nat} {ld tl : Int} (h : WinAt w bX ld tl) (h0 : ¬ 0 ≤ ld) : w.heap[bX]? = some (.cells #[.bool false, .int .i64 0, .int .i64 0] 83 (0, 0)) := by
  unfold WinAt winC at h
  rwa [if_neg h0] at h
theorem win_at {w : World} {bX : Nat} {ld tl : Int} (h : w.heap[bX]? = some (.cells #[.bool true, .int .i64 ld, .int .i64 tl] 83 (0, 0))) (h0 : 0 ≤ ld) : WinAt w bX ld tl := by
  unfold WinAt winC
  rwa [if_pos h0]
theorem down_bd (x m : Nat) (hx : x < 18446744073709551616) : 0 ≤ (x : Int) / 2 ^ m ∧ (x : Int) / 2 ^ m < 18446744073709551616 := by
  refine ⟨Int.ediv_nonneg (by omega) (Int.le_of_lt (two_pow_pos _)), ?_⟩
  have := Int.ediv_le_self (a := (x : Int)) (2 ^ m) (by omega)
  omega
set_option maxHeartbeats 8000000 in
set_option maxRecDepth 100000 in
theorem pack_any (v : Value) (n : Nat) (l : List Int) (w : World) (hs : Sl w 1 v n (l.map (Value.int .u64))) (hl : l.length = n) (hwf : ∀ z ∈ l, (Lit.int .u64 z).wf = true) (hn : n ≤ 1000) (hT : TabX w) (hT2 : 2 ≤ w.heap.size) :
    Calls Tryd.prog 21 #[v] w (PackPost w (msTo l n).1) := by
  obtain ⟨ao, c, rfl, hnc, hc, _⟩ := hs.shape
  have HL := Lib.hid hl
  have HWF := Lib.hid hwf
  have HTX := Lib.hid hT
  have H0 : Hid ((msTo l 0).1 = [] ++ signs (n : Int) 16) := by show _ = _; rw [ms_zero, hl]; rfl
  clear hl hwf hT
  go_enter Tryd.func21, Tryd.ntmps21
  go_wp2_with fail
  obtain ⟨wA, hwA⟩ : ∃ wA, wA = (w.alloc (Obj.cells #[.slice none 0 0, .int .i64 0] 39)).alloc (Obj.cells #[.slice none 0 0, .int .i64 0] 74) := ⟨_, rfl⟩
  have hAs : wA.heap.size = w.heap.size + 1 + 1 := by rw [hwA]; simp
  have hAb : Below w.heap.size w wA := by rw [hwA]; exact ((Below.refl _ w).alloc (Nat.le_refl _) _).alloc (by simp) _
  have hA0 : wA.heap[w.heap.size]? = some (.cells #[.slice none 0 0, .int .i64 0] 39 (0, 0)) := by rw [hwA]; exact two_first w _ _
  have hA1 : wA.heap[w.heap.size + 1]? = some (.cells #[.slice none 0 0, .int .i64 0] 74 (0, 0)) := by rw [hwA]; exact two_second w _ _
  have hinv0 : WInv wA (w.heap.size + 1) (w.heap.size + 1) [] := ⟨.slice none 0 0, hA1, World.ownsRow_nil _ _ _ _⟩
  rw [← hwA]
  have HAS := Lib.hid hAs
  clear hwA hAs hA1
  refine (wput_any (n : Int) 16 [] (w.heap.size + 1) (w.heap.size + 1) _ (by omega) (by omega) (by decide) (by simp) (Nat.le_refl _) hinv0).mono ?_
  rintro e w1 ⟨rfl, hi1, hb1, _⟩
  rw [← H0.out] at hi1
  have hsz1 := hb1.size
  obtain ⟨bX, hbX⟩ : ∃ b, w1.heap.size = b := ⟨_, rfl⟩
  have hXB : w.heap.size + 1 < bX := by have := HAS.out; omega
  have HIX : Hid (WInv (w1.alloc (Obj.cells #[.bool false, .int .i64 0, .int .i64 0] 83)) (w.heap.size + 1) (w.heap.size + 1) (msTo l 0).1) := winv_below hi1 ((Below.refl _ w1).alloc (Nat.le_refl _) _)
  have HBX : Hid (Below (w.heap.size + 1) wA (w1.alloc (Obj.cells #[.bool false, .int .i64 0, .int .i64 0] 83))) := hb1.alloc (by omega) _
  have HWX : Hid (WinAt (w1.alloc (Obj.cells #[.bool false, .int .i64 0, .int .i64 0] 83)) bX (-1) (-1)) := by rw [← hbX]; exact heap_alloc_new w1 _
  clear hinv0 hi1 hb1
  go_wp2_with fail
  try rw [hbX]
  clear hbX hsz1
  go_loopw [21] (fun i wr => ∃ (k : Nat) (LD TL : Int), k ≤ n ∧ i = .int .i64 k ∧ Hid ((msTo l k).2 = (LD, TL)) ∧ Hid (winOk LD TL) ∧ Hid (WInv wr (w.heap.size + 1) (w.heap.size + 1) (msTo l k).1) ∧ Hid (WinAt wr bX LD TL) ∧ Hid (Below (w.heap.size + 1) wA wr)) (fun i _ => n - (intOf i).toNat)
  case atStart => exact ⟨0, -1, -1, by omega, rfl, Lib.hid rfl, Lib.hid (Or.inl ⟨rfl, rfl⟩), HIX, HWX, HBX⟩
  case round =>
    obtain ⟨k, LD, TL, hk, rfl, HW, HWIN, HI, HX, HB⟩ := hrel
    have hbel : Below w.heap.size w wr := hAb.trans (HB.out.mono (by omega))
    by_cases hlt : k < n
    · obtain ⟨b, off, rfl, hck⟩ := (hs.below hbel).int (i := k) hlt
      have hk1 : k < l.length := by rw [HL.out]; exact hlt
      have hwk := wf_u64 (HWF.out (l.getD k 0) (by rw [List.getD_eq_getElem?_getD, List.getElem?_eq_getElem hk1]; exact List.getElem_mem _))
      obtain ⟨t, ht⟩ : ∃ t, l.getD k 0 = t := ⟨_, rfl⟩
      rw [ht] at hck hwk
      have HT := Lib.hid ht
      have HTL : Hid ((msTo l k).1.length ≤ 100000) := by show _ ≤ _; have := ms_len l k; omega
      clear ht hk1
      by_cases h0 : k = 0
      · have HCF : Hid ((msTo l (k + 1)).1 = (msTo l k).1 ++ signs t 64) := by
          show _ = _
          have h2 := HT.out
          subst h0
          rw [ms_first, ms_zero, h2]
        have HW2 : Hid ((msTo l (k + 1)).2 = (LD, TL)) := by
          show _ = _
          have h := HW.out
          subst h0
          rw [← h]; rfl
        have e0 : ((k : Int) == 0) = true := by rw [h0]; rfl
        clear h0 hbel
        go_wp2_with fail
        refine (wput_any t 64 (msTo l k).1 (w.heap.size + 1) (w.heap.size + 1) _ hwk.1 hwk.2 (by decide) (by have := HTL.out; omega) (Nat.le_refl _) HI.out).mono ?_
        rintro e w2 ⟨rfl, hi2, hb2, hkp⟩
        rw [← HCF.out] at hi2
        have HI2 := Lib.hid hi2
        have HB2 := Lib.hid (HB.out.trans hb2)
        have HX2 : Hid (WinAt w2 bX LD TL) := hkp bX _ _ _ HX.out (by omega) (by decide)
        clear hi2 hb2 hkp
        go_wp2_with fail
        go_roundw
        case rel => exact ⟨k + 1, LD, TL, by omega, by go_num, HW2, HWIN, HI2, HX2, HB2⟩
        case measure => simp [intOf]; omega
      · obtain ⟨j, rfl⟩ : ∃ j, k = j + 1 := ⟨k - 1, by omega⟩
        clear h0
        obtain ⟨b', off', hbo, hcj⟩ := (hs.below hbel).int (i := j) (by omega)
        simp only [Option.some.injEq, Addr.mk.injEq, and_true] at hbo
        obtain ⟨rfl, rfl⟩ := hbo
        obtain ⟨P, hP⟩ : ∃ t, l.getD j 0 = t := ⟨_, rfl⟩
        have hj1 : j < l.length := by rw [HL.out]; omega
        have hwj := wf_u64 (HWF.out (l.getD j 0) (by rw [List.getD_eq_getElem?_getD, List.getElem?_eq_getElem hj1]; exact List.getElem_mem _))
        rw [hP] at hcj hwj
        obtain ⟨x, hx, hxb⟩ := xor_nat t P hwk.1 hwk.2 hwj.1 hwj.2
        have HNX : Hid (msTo l (j + 1 + 1) = putX (msTo l (j + 1)).1 LD TL (x : Int)) := by
          show _ = _
          rw [ms_next, HT.out, hP, HW.out]
          unfold xorI
          rw [hx]
        clear hP hj1 HT
        have HTX2 : Hid (TabX wr) := HTX.out.below (hbel.mono hT2)
        have e0 : (((j + 1 : Nat) : Int) == 0) = false := beq_eq_false_iff_ne.2 (by omega)
        have e0' : ((j : Int) + 1 == 0) = false := beq_eq_false_iff_ne.2 (by omega)
        have HXX := Lib.hid hx
        clear hx hbel
        go_upto_region 11 with (fail)
        go_cut [8] (fun cv wx => cv = .int .u64 (x : Int) ∧ wr = wx)
        case first =>
          go_wp2_with fail
          go_meet
          exact ⟨congrArg (Value.int .u64) HXX.out, rfl⟩
        obtain ⟨rfl, hwx⟩ := hcut
        subst hwx
        clear HXX hck hcj hwk hwj e0 e0'
        by_cases hz : x = 0
        · have HCF : Hid ((msTo l (j + 1 + 1)).1 = (msTo l (j + 1)).1 ++ signs 0 1) := by
            show _ = _
            rw [HNX.out, hz]
            exact congrArg Prod.fst (put0 _ _ _)
          have HW2 : Hid ((msTo l (j + 1 + 1)).2 = (LD, TL)) := by
            show _ = _
            rw [HNX.out, hz]
            exact congrArg Prod.snd (put0 _ _ _)
          have ex : ((x : Int) == 0) = true := by rw [hz]; rfl
          clear hz
          go_wp2_with fail
          refine (wput_any 0 1 _ (w.heap.size + 1) (w.heap.size + 1) _ (by decide) (by decide) (by decide) (by have := HTL.out; omega) (Nat.le_refl _) HI.out).mono ?_
          rintro e w2 ⟨rfl, hi2, hb2, hkp⟩
          rw [← HCF.out] at hi2
          have HI2 := Lib.hid hi2
          have HB2 := Lib.hid (HB.out.trans hb2)
          have HX2 : Hid (WinAt w2 bX LD TL) := hkp bX _ _ _ HX.out (by omega) (by decide)
          clear hi2 hb2 hkp
          go_wp2_with fail
          go_roundw
          case rel => exact ⟨j + 1 + 1, LD, TL, by omega, by go_num, HW2, HWIN, HI2, HX2, HB2⟩
          case measure => simp [intOf]; omega
        · have hxne : (x : Int) ≠ 0 := by omega
          have ex : ((x : Int) == 0) = false := beq_eq_false_iff_ne.2 hxne
          obtain ⟨A, hA⟩ : ∃ A, leadF (x : Int) = A := ⟨_, rfl⟩
          obtain ⟨B, hB⟩ : ∃ B, tailF (x : Int) = B := ⟨_, rfl⟩
          have HA := Lib.hid hA
          have HB' := Lib.hid hB
          have hlt63 : A + B ≤ 63 := by rw [← hA, ← hB]; exact lead_tail hz hxb
          clear hA hB
          go_wp2_with fail
          refine (leading_any x hxb _).mono ?_
          rw [HA.out]
          rintro e w2 ⟨rfl, hq⟩
          obtain rfl : wr = w2 := hq.symm
          go_wp2_with fail
          refine (trailing_any x hxb hz _ HTX2.out).mono ?_
          rw [HB'.out]
          rintro e w3 ⟨rfl, hq⟩
          obtain rfl : wr = w3 := hq.symm
          clear ex hz
          go_upto_region 15 with (fail)
          obtain ⟨D, hD⟩ : ∃ D, decide (0 ≤ LD ∧ LD ≤ (A : Int) ∧ TL ≤ (B : Int)) = D := ⟨_, rfl⟩
          have HD := Lib.hid hD
          clear hD
          have hcase : (∃ ld tl : Nat, LD = ld ∧ TL = tl ∧ (ld : Int) ≤ A ∧ (tl : Int) ≤ B ∧ ld + tl ≤ 63) ∨ (LD = -1 ∧ TL = -1) ∨ (∃ ld tl : Nat, LD = ld ∧ TL = tl ∧ ¬ (ld : Int) ≤ A) ∨ (∃ ld tl : Nat, LD = ld ∧ TL = tl ∧ (ld : Int) ≤ A ∧ ¬ (tl : Int) ≤ B) := by
            rcases HWIN.out with h | h
            · exact Or.inr (Or.inl h)
            · obtain ⟨ld, rfl⟩ := Int.eq_ofNat_of_zero_le h.1
              obtain ⟨tl, rfl⟩ := Int.eq_ofNat_of_zero_le h.2.1
              by_cases h1 : (ld : Int) ≤ A
              · by_cases h2 : (tl : Int) ≤ B
                · exact Or.inl ⟨ld, tl, rfl, rfl, h1, h2, by omega⟩
                · exact Or.inr (Or.inr (Or.inr ⟨ld, tl, rfl, rfl, h1, h2⟩))
              · exact Or.inr (Or.inr (Or.inl ⟨ld, tl, rfl, rfl, h1⟩))
          have HCASE := Lib.hid hcase
          clear hcase
          go_cut [57] (fun cv wx => cv = .bool D ∧ wr = wx)
          case first =>
            rcases HCASE.out with ⟨ld, tl, rfl, rfl, hc1, hc2, _⟩ | ⟨rfl, rfl⟩ | ⟨ld, tl, rfl, rfl, hf⟩ | ⟨ld, tl, rfl, rfl, hf1, hf⟩
            · have HDV : Hid (D = true) := by show _ = _; rw [← HD.out]; exact decide_eq_true ⟨by omega, hc1, hc2⟩
              have hxx := win_pos HX.out (by omega)
              obtain ⟨x0, x1, x2⟩ := cells3 hxx
              clear hxx
              go_wp2_with fail
              go_meet
              exact ⟨by rw [HDV.out], rfl⟩
            · have HDV : Hid (D = false) := by show _ = _; rw [← HD.out]; exact decide_eq_false (by omega)
              have hxx := win_neg HX.out (by omega)
              obtain ⟨x0, x1, x2⟩ := cells3 hxx
              clear hxx
              go_wp2_with fail
              go_meet
              exact ⟨by rw [HDV.out], rfl⟩
            · have HDV : Hid (D = false) := by show _ = _; rw [← HD.out]; exact decide_eq_false (by omega)
              have hxx := win_pos HX.out (by omega)
              obtain ⟨x0, x1, x2⟩ := cells3 hxx
              clear hxx
              go_wp2_with fail
              go_meet
              exact ⟨by rw [HDV.out], rfl⟩
            · have HDV : Hid (D = false) := by show _ = _; rw [← HD.out]; exact decide_eq_false (by omega)
              have hxx := win_pos HX.out (by omega)
              obtain ⟨x0, x1, x2⟩ := cells3 hxx
              clear hxx
              go_wp2_with fail
              go_meet
              exact ⟨by rw [HDV.out], rfl⟩
          obtain ⟨rfl, hwx⟩ := hcut
          subst hwx
          go_upto_if 57 with (fail)
          go_cut [] (fun wx => ∃ (ld tl : Nat) (s' : List Bool), ld + tl ≤ 63 ∧ Hid (WInv wx (w.heap.size + 1) (w.heap.size + 1) s') ∧ Hid (wx.heap[bX]? = some (.cells #[.bool true, .int .i64 ld, .int .i64 tl] 83 (0, 0))) ∧ Hid (Below (w.heap.size + 1) wA wx) ∧ Hid ((msTo l (j + 1 + 1)).1 = s' ++ signs ((x : Int) / 2 ^ tl) (64 - ld - tl)) ∧ Hid ((msTo l (j + 1 + 1)).2 = ((ld : Int), (tl : Int))) ∧ Hid (s'.length ≤ 200000))
          case first =>
            cases D
            · have hnw : ¬ (0 ≤ LD ∧ LD ≤ leadF (x : Int) ∧ TL ≤ tailF (x : Int)) := by rw [HA.out, HB'.out]; exact of_decide_eq_false HD.out
              have HCF : Hid ((msTo l (j + 1 + 1)).1 = (msTo l (j + 1)).1 ++ signs 3 2 ++ signs (A : Int) 6 ++ signs (63 - (A : Int) - B) 6 ++ signs ((x : Int) / 2 ^ B) (64 - A - B)) := by
                show _ = _
                rw [HNX.out, put11 hxne hnw, HA.out, HB'.out]
                rfl
              have HW2 : Hid ((msTo l (j + 1 + 1)).2 = ((A : Int), (B : Int))) := by
                show _ = _
                rw [HNX.out, put11 hxne hnw, HA.out, HB'.out]
              clear hnw
              have hxx := HX.out
              unfold WinAt at hxx
              obtain ⟨c0, c1, c2, hwc⟩ := win_three LD TL
              rw [hwc] at hxx
              have hst := box3_store (.bool true) (.int .i64 A) (.int .i64 B) hxx
              obtain ⟨z0, z1, z2⟩ := frozen3 hxx
              have hib := winv_other HI.out hxx (by omega) 0 (.bool true)
              have hxx1 := row_setCell 0 (.bool true) hxx
              have hib := winv_other hib hxx1 (by omega) 1 (.int .i64 A)
              have hxx2 := row_setCell 1 (.int .i64 A) hxx1
              have hib := winv_other hib hxx2 (by omega) 2 (.int .i64 B)
              have hbb := ((HB.out.setCell (p := ⟨bX, 0, none⟩) (show w.heap.size + 1 ≤ bX by omega) (.bool true)).setCell (p := ⟨bX, 1, none⟩) (show w.heap.size + 1 ≤ bX by omega) (.int .i64 A)).setCell (p := ⟨bX, 2, none⟩) (show w.heap.size + 1 ≤ bX by omega) (.int .i64 B)
              have HIB := Lib.hid hib
              have HBB := Lib.hid hbb
              have HST := Lib.hid hst
              obtain ⟨x0, x1, x2⟩ := cells3 hxx
              clear hib hbb hst hxx1 hxx2
              go_wp2_with fail
              refine (wput_any 3 2 _ (w.heap.size + 1) (w.heap.size + 1) _ (by decide) (by decide) (by decide) (by have := HTL.out; omega) (Nat.le_refl _) HIB.out).mono ?_
              rintro e w2 ⟨rfl, hi2, hb2, hkp⟩
              have hx2 := hkp bX _ _ _ HST.out (by omega) (by decide)
              have HB2 := Lib.hid (HBB.out.trans hb2)
              clear x0 x1 x2 z0 z1 z2 hkp HIB HBB HST hxx hb2
              go_wp2_with fail
              refine (wput_any (A : Int) 6 _ (w.heap.size + 1) (w.heap.size + 1) _ (by omega) (by omega) (by decide) (by simp only [List.length_append, signs_len]; have := HTL.out; omega) (Nat.le_refl _) hi2).mono ?_
              rintro e w3 ⟨rfl, hi3, hb3, hkp⟩
              have hx3 := hkp bX _ _ _ hx2 (by omega) (by decide)
              have HB3 := Lib.hid (HB2.out.trans hb3)
              clear hkp hx2 hi2 hb3 HB2
              obtain ⟨x0, x1, x2⟩ := cells3 hx3
              go_wp2_with fail
              refine (size_any true A B (by omega) _).mono ?_
              rintro e w4 ⟨rfl, hb4⟩
              have hx4 := (hb4.block bX (Array.getElem?_eq_some_iff.1 hx3).1).trans hx3
              have hi4 := winv_below hi3 hb4
              have HB4 := Lib.hid (HB3.out.trans (hb4.mono (by have := (Array.getElem?_eq_some_iff.1 hx3).1; omega)))
              have h63 : (64 - (A : Int) - B - 1) = 63 - (A : Int) - B := by omega
              clear x0 x1 x2 hx3 hi3 hb4 HB3
              go_wp2_with fail
              (try rw [h63])
              refine (wput_any (63 - (A : Int) - B) 6 _ (w.heap.size + 1) (w.heap.size + 1) _ (by omega) (by omega) (by decide) (by simp only [List.length_append, signs_len]; have := HTL.out; omega) (Nat.le_refl _) hi4).mono ?_
              rintro e w5 ⟨rfl, hi5, hb5, hkp⟩
              have hx5 := hkp bX _ _ _ hx4 (by omega) (by decide)
              have HB5 := Lib.hid (HB4.out.trans hb5)
              have HI5 := Lib.hid hi5
              have HX5 := Lib.hid hx5
              clear hkp hx4 hi4 hb5 HB4 hi5 hx5
              go_wp2_with fail
              go_meet
              exact ⟨A, B, _, by omega, HI5, HX5, HB5, HCF, HW2, by show _ ≤ _; simp only [List.length_append, signs_len]; have := HTL.out; omega⟩
            · obtain ⟨hw0, hw1', hw2'⟩ := of_decide_eq_true HD.out
              obtain ⟨ld, rfl⟩ := Int.eq_ofNat_of_zero_le hw0
              have hTL : 0 ≤ TL ∧ (ld : Int) + TL ≤ 63 := by
                rcases HWIN.out with h | h
                · omega
                · omega
              obtain ⟨tl, rfl⟩ := Int.eq_ofNat_of_zero_le hTL.1
              have hw2 : (ld : Int) ≤ A := hw1'
              have hw3 : (tl : Int) ≤ B := hw2'
              have HCF : Hid ((msTo l (j + 1 + 1)).1 = (msTo l (j + 1)).1 ++ signs 2 2 ++ signs ((x : Int) / 2 ^ tl) (64 - ld - tl)) := by
                show _ = _
                rw [HNX.out, put10 hxne ⟨by omega, by rw [HA.out]; exact hw2, by rw [HB'.out]; exact hw3⟩]
                rfl
              have HW2 : Hid ((msTo l (j + 1 + 1)).2 = ((ld : Int), (tl : Int))) := by
                show _ = _
                rw [HNX.out, put10 hxne ⟨by omega, by rw [HA.out]; exact hw2, by rw [HB'.out]; exact hw3⟩]
              have hxx : wr.heap[bX]? = some (.cells #[.bool true, .int .i64 ld, .int .i64 tl] 83 (0, 0)) := by
                have := HX.out
                unfold WinAt winC at this
                rwa [if_pos (by omega)] at this
              obtain ⟨x0, x1, x2⟩ := cells3 hxx
              go_wp2_with fail
              refine (wput_any 2 2 _ (w.heap.size + 1) (w.heap.size + 1) _ (by decide) (by decide) (by decide) (by have := HTL.out; omega) (Nat.le_refl _) HI.out).mono ?_
              rintro e w2 ⟨rfl, hi2, hb2, hkp⟩
              have HX2 := Lib.hid (hkp bX _ _ _ hxx (by omega) (by decide))
              have HI2 := Lib.hid hi2
              have HB2 := Lib.hid (HB.out.trans hb2)
              clear x0 x1 x2 hi2 hb2 hkp hxx
              go_wp2_with fail
              go_meet
              exact ⟨ld, tl, _, by omega, HI2, HX2, HB2, HCF, HW2, by show _ ≤ _; simp only [List.length_append, signs_len]; have := HTL.out; omega⟩
          case rest =>
            obtain ⟨ld, tl, s', hlt2, HI2, HX2, HB2, HCF, HW2, HSL⟩ := hcut
            clear HI HX HB HNX HTX2 HTL HW HWIN HA HB' hlt63
            have hNsz : (64 - (ld : Int) - tl) = ((64 - ld - tl : Nat) : Int) := by omega
            have hx2 := HX2.out
            have hbl := (Array.getElem?_eq_some_iff.1 hx2).1
            obtain ⟨x0, x1, x2⟩ := cells3 hx2
            have HWIN2 : Hid (winOk (ld : Int) (tl : Int)) := Or.inr ⟨by omega, by omega, by omega⟩
            go_upto_region 21 with (fail)
            go_region_law (first
              | (go_simp; go_at_call 41; refine (size_any true ld tl (by omega) _).mono ?_; rintro e wu ⟨rfl, hbu⟩; have hbu2 : Below wc.heap.size wc wu := ((Below.refl _ _).drew).trans hbu; have y0 := (hbu2.cell (p := ⟨bX, 0, none⟩) hbl).trans x0; have y1 := (hbu2.cell (p := ⟨bX, 1, none⟩) hbl).trans x1; have y2 := (hbu2.cell (p := ⟨bX, 2, none⟩) hbl).trans x2)
              | (go_simp; go_at_call 35; (try rw [hNsz]); refine (wput_any ((x : Int) / 2 ^ tl) (64 - ld - tl) s' (w.heap.size + 1) (w.heap.size + 1) _ (down_bd x tl hxb).1 (down_bd x tl hxb).2 (by omega) (by have := HSL.out; omega) (Nat.le_refl _) (winv_below HI2.out hbu2)).mono ?_; rintro e w9 ⟨rfl, hi9, hb9, hkp9⟩; have hx9 := hkp9 bX _ _ _ ((hbu2.block bX hbl).trans hx2) (by omega) (by decide)))
            all_goals
              rw [← HCF.out] at hi9
              have HI9 := Lib.hid hi9
              have HB9 := Lib.hid ((HB2.out.trans (hbu2.mono (by omega))).trans hb9)
              have HX9 := Lib.hid hx9
              clear hi9 hb9 hkp9 hx9
              go_wp2_with fail
              go_roundw
              case rel => exact ⟨j + 1 + 1, ld, tl, by omega, by go_num, HW2, HWIN2, HI9, Lib.hid (win_at HX9.out (by omega)), HB9⟩
              case measure => simp [intOf]; omega
    · obtain rfl : k = n := by omega
      obtain ⟨vB, hx, hown⟩ := HI.out
      obtain ⟨va, vc, rfl, hv1, hv2, _⟩ := (own_sl hown).shape
      have hR := (HB.out.block w.heap.size (by omega)).trans hA0
      obtain ⟨⟨r0, r1⟩, ⟨f0, f1⟩⟩ := box2 hR
      obtain ⟨⟨q0, q1⟩, -⟩ := box2 hx
      have hR2 := box2_store (.slice va (pack (msTo l k).1).length vc) (.int .i64 (msTo l k).1.length) hR
      obtain ⟨⟨s0, s1⟩, -⟩ := box2 hR2
      have hne : ∀ j, (Value.slice va (pack (msTo l k).1).length vc).ownBlock ≠ some (⟨w.heap.size, j, none⟩ : Addr).block := fun j h => absurd (hown.lt _ h).1 (by show ¬ (w.heap.size + 1 ≤ w.heap.size); omega)
      have hown2 := ownsRow_setCell_other (ownsRow_setCell_other hown (a := ⟨w.heap.size, 0, none⟩) (hne 0) (.slice va (pack (msTo l k).1).length vc)) (a := ⟨w.heap.size, 1, none⟩) (hne 1) (.int .i64 (msTo l k).1.length)
      have HOWN := Lib.hid hown2
      have hb3 := (hbel.setCell (p := ⟨w.heap.size, 0, none⟩) (Nat.le_refl _) (.slice va (pack (msTo l k).1).length vc)).setCell (p := ⟨w.heap.size, 1, none⟩) (Nat.le_refl _) (.int .i64 (msTo l k).1.length)
      clear hown hown2 hx hR hR2
      go_wp2_with fail
      refine bodyPost_ret (v := .tuple #[.agg #[.slice va (pack (msTo l k).1).length vc, .int .i64 (msTo l k).1.length], .int .i64 0]) (by simp [results, Tryd.results21, go_sem, s0, s1]) rfl ?_
      exact ⟨_, rfl, HOWN.out, hb3⟩
end Go.Proofs.YtbifhmbfmoeofaaDoor.Xor
/-
  The walk of Packed.
-/
namespace Go.Proofs.YtbifhmbfmoeofaaDoor.Bits
open Go.RowKit Go.Gh Go.WideShapes
set_option linter.unusedVariables false

theorem sbits_pad (s : List Bool) (m : Nat) : sbits (s ++ List.replicate m false) ++ ⟨#[48]⟩ = sbits (s ++ List.replicate (m + 1) false) := by
  rw [show (⟨#[48]⟩ : ByteArray) = sbits [false] from rfl, sbits_append, List.append_assoc, ← List.replicate_succ']
theorem sbits_cut (s : List Bool) (k : Nat) (h : k + 8 ≤ s.length) : (sbits s).extract k (k + 8) = sbits ((s.drop k).take 8) := by
  unfold sbits
  rw [ByteArray.extract_mk, List.map_take, List.map_drop, show k + 8 - k = 8 from by omega]

theorem own_step {w : World} {B g cap : Nat} {L L' : List Int} (j : Nat) (V : Int) (h : w.ownsRow B 5 1 (.slice (some ⟨g, 0, none⟩) (j + 1) cap) (j + 1) (L.map (Value.int .u8) ++ [.int .u8 (IntKind.u8.wrap V)])) (hj : True) (he : L' = L ++ [V]) (h0 : 0 ≤ V) (h1 : V < 256) :
    w.ownsRow B 5 1 (.slice (some ⟨g, 0, none⟩) (j + 1) cap) (j + 1) (L'.map (Value.int .u8)) := by
  rw [he, List.map_append]
  have : IntKind.u8.wrap V = V := by rw [IntKind.wrap_u8']; omega
  rw [this] at h
  exact h
/-- api.Bits in memory of the call's own, or as a value: its bytes are owned. -/
theorem packed_any (s : List Bool) (hn : s.length ≤ 90000) (w : World) :
    Calls Tryd.prog 19 #[.string (sbits s)] w fun e w' => ∃ v, e = .returned (.agg #[v, .int .i64 s.length]) ∧ w'.ownsRow w.heap.size 5 1 v (pack s).length ((pack s).map (Value.int .u8)) ∧ Below w.heap.size w w' := by
  go_enter Tryd.func19, Tryd.ntmps19
  have hsz := sbits_size s
  go_wp2_with fail
  clear hsz
  go_loop [0] (fun x => ∃ (m : Nat) (S : ByteArray), x = .string S ∧ S.size ≤ 100000 ∧ Hid (S = sbits (s ++ List.replicate m false)) ∧ Hid (S.size = s.length + m) ∧ Hid ((s.length + m + 7) / 8 = (s.length + 7) / 8)) (fun x => match x with | .string S => (8 - S.size % 8) % 8 | _ => 0)
  case atStart => exact ⟨0, sbits s, rfl, by rw [sbits_size]; omega, by show _ = _; simp, by show _ = _; rw [sbits_size]; rfl, rfl⟩
  case round =>
    obtain ⟨m, S, rfl, hS1, hS, hSz, hm⟩ := hrel
    by_cases hlt : 0 < S.size % 8
    · have hp : 0 < (S.size : Int) % 8 := by omega
      have hH : Hid (S ++ (⟨#[48]⟩ : ByteArray) = sbits (s ++ List.replicate (m + 1) false)) := by
        show _ = _
        rw [hS.out, sbits_pad]
      have hm2 := hm.out
      have hs2 := hSz.out
      have hM : Hid ((s.length + (m + 1) + 7) / 8 = (s.length + 7) / 8) := by show _ = _; omega
      have hS9 : S.size + 1 ≤ 100000 := by omega
      clear hm2 hs2
      go_wp2
      go_round
      case rel => exact ⟨m + 1, _, rfl, by rw [ByteArray.size_append]; exact hS9, hH, by show _ = _; rw [ByteArray.size_append, hSz.out]; rfl, hM⟩
      case measure =>
        show (8 - (S ++ (⟨#[48]⟩ : ByteArray)).size % 8) % 8 < _
        rw [ByteArray.size_append, show (⟨#[48]⟩ : ByteArray).size = 1 from rfl]
        show _ < (8 - S.size % 8) % 8
        omega
    · have hz : Hid (pack (s ++ List.replicate m false) = pack s) := pack_pad s m hm.out
      have hq : ∃ q, Hid ((s ++ List.replicate m false).length = 8 * q) ∧ Hid (S.size = 8 * q) ∧ q ≤ 12500 ∧ (pack s).length = q := by
        have h1 := hSz.out
        refine ⟨S.size / 8, by show _ = _; simp; omega, by show _ = _; omega, by omega, ?_⟩
        rw [← hz.out, pack_len]; simp; omega
      obtain ⟨q, hq1, hq2, hq3, hq4⟩ := hq
      have HQ := Lib.hid hq4
      clear hq4 hm hSz
      generalize s ++ List.replicate m false = s' at *
      have hp : ¬ 0 < (S.size : Int) % 8 := by omega
      go_wp2_with fail
      refine wp_abs (fun w1 => w1.cell? ⟨w.heap.size, 0, none⟩ = some (.slice none 0 0) ∧ w1.heap[w.heap.size]? = some (.cells #[.slice none 0 0, .int .i64 0] 39 (0, 0)) ∧ w1.heap[w.heap.size + 1]? = some (.cells #[.slice none 0 0, .int .i64 s.length] 39 (0, 0)) ∧ Below w.heap.size w w1 ∧ w.heap.size + 2 ≤ w1.heap.size) ⟨?_, ?_, ?_, ((Below.refl _ _).alloc (Nat.le_refl _) _).alloc (by simp) _, by simp⟩ ?_
      · simp
      · exact two_first w _ _
      · exact two_second w _ _
      rintro w1 ⟨_, hr, hx, hbel, hsz⟩
      go_loopw [4] (fun i wr => ∃ (j k : Nat) (v : Value), j ≤ q ∧ i = .int .i64 k ∧ Hid (k = 8 * j) ∧ wr.ownsRow (w.heap.size + 2) 5 1 v j (((pack s').take j).map (Value.int .u8)) ∧ Below w.heap.size w wr ∧
          wr.heap[w.heap.size]? = some (.cells #[.slice none 0 0, .int .i64 0] 39 (0, 0)) ∧ wr.heap[w.heap.size + 1]? = some (.cells #[v, .int .i64 s.length] 39 (0, 0)) ∧ w.heap.size + 2 ≤ wr.heap.size) (fun i _ => 100000 - (intOf i).toNat)
      case atStart => exact ⟨0, 0, _, by omega, rfl, rfl, World.ownsRow_nil _ _ _ _, hbel, hr, hx, hsz⟩
      case round =>
        clear hr hx hbel hsz
        obtain ⟨j, k, v, hj, rfl, hk, hown, hbel, hr, hx, hsz⟩ := hrel
        by_cases hlt : j < q
        · have h8 : k + 8 ≤ S.size := by have := hq2.out; have := hk.out; omega
          have HX : Hid (S.extract k (k + 8) = sbits ((s'.drop (8 * j)).take 8)) := by show _ = _; rw [hS.out, hk.out]; exact sbits_cut s' (8 * j) (by have := hq1.out; omega)
          have HE := Lib.hid (chunk_eight s' j (by have := hq1.out; omega))
          have hVb := byteAt_bd s' j
          have HV : Hid (valF 0 ((s'.drop (8 * j)).take 8) = byteAt s' j) := by show _ = _; rw [HE.out]; rfl
          have HC : Hid (((s'.drop (8 * j)).take 8).length ≤ 64) := by show _ ≤ _; rw [List.length_take]; omega
          have HPV : Hid ((pack s').take (j + 1) = (pack s').take j ++ [byteAt s' j]) := by
            have hjl : j < (pack s').length := by rw [hz.out, HQ.out]; exact hlt
            show _ = _
            rw [List.take_succ_eq_append_getElem hjl]
            have := pack_get s' j (by rw [← pack_len]; exact hjl)
            rw [List.getD_eq_getElem?_getD, List.getElem?_eq_getElem hjl] at this
            rw [show (pack s')[j] = byteAt s' j from this]
          generalize (s'.drop (8 * j)).take 8 = ch at *
          generalize byteAt s' j = V at *
          obtain ⟨hV0, hV1⟩ := hVb
          have c0 := (row_cell 0 _ hx rfl).1
          have hz1 : w.heap.size + 1 < wr.heap.size := by omega
          have a1 : IntKind.i64.wrap ((k : Int) + 8) = (k : Int) + 8 := IntWalk.i64_in _ (by omega)
          have a2 : 0 ≤ (k : Int) + 8 := by omega
          have a3 : ((k : Int) + 8).toNat = k + 8 := by omega
          have a4 : (k : Int) + 8 ≤ S.size := by omega
          have a5 : (k : Int) ≤ (k : Int) + 8 := by omega
          have h9 : k < S.size := by omega
          go_wp2_with fail
          go_region_law (first
            | (refine step_app1 [_] elU8 rfl _ _ rfl hown.drew hbel.drew (by omega) hsz rfl rfl rfl (one_all _ rfl) (by omega) (by omega) ?_; intro g cap w2 hown' hbel' hgr'; have hx2 := grown_block hown.drew hgr' (by omega) hx; have c2 := (row_cell 0 _ hx2 rfl).1; have f2 := (row_cell 0 _ hx2 rfl).2)
            | (go_simp; go_at_call 37; rw [HX.out]; refine (valueof_any _ HC.out _).mono ?_; rintro e w' ⟨rfl, rfl⟩; rw [HV.out]))
          all_goals
            have hr2 := grown_block hown.drew hgr' (by omega) hr
            have hsz2 := hgr'.size
            have hfin := own_step j V hown' trivial HPV.out hV0 hV1
            have hown3 := ownsRow_setCell_below (a := ⟨w.heap.size + 1, 0, none⟩) hfin (show w.heap.size + 1 < w.heap.size + 2 by omega) (.slice (some ⟨g, 0, none⟩) (j + 1) cap)
            have hx3 := row_setCell 0 (.slice (some ⟨g, 0, none⟩) (j + 1) cap) hx2
            have hr3 := row_setCell_other (i := 0) (.slice (some ⟨g, 0, none⟩) (j + 1) cap) hr2 (show w.heap.size ≠ w.heap.size + 1 by omega)
            have hbel3 := hbel'.setCell (p := ⟨w.heap.size + 1, 0, none⟩) (show w.heap.size ≤ w.heap.size + 1 by omega) (.slice (some ⟨g, 0, none⟩) (j + 1) cap)
            have HK : Hid (k + 8 = 8 * (j + 1)) := by show _ = _; have := hk.out; omega
            have hsz3 : w.heap.size + 2 ≤ w2.heap.size := by simp at hsz2; omega
            clear hown' hbel' hgr' hr hx hown hbel hx2 c2 f2 hr2 hfin a1 a2 a3 a4 a5
            go_wp2
            go_roundw
            case rel => exact ⟨j + 1, k + 8, _, by omega, by go_num, HK, hown3, hbel3, hr3, hx3, by simpa using hsz3⟩
            case measure => simp [intOf]; omega
        · obtain rfl : j = q := by omega
          have HT : Hid ((pack s').take j = pack s) := by
            show _ = _
            rw [List.take_of_length_le (by rw [hz.out, HQ.out]; omega)]; exact hz.out
          have h8 : S.size ≤ k := by have := hq2.out; have := hk.out; omega
          have c0 := (row_cell 0 _ hx rfl).1
          have c1 := (row_cell 1 _ hx rfl).1
          have r0 := (row_cell 0 _ hr rfl).1
          have r1 := (row_cell 1 _ hr rfl).1
          have r0f := (row_cell 0 _ hr rfl).2
          have r1f := (row_cell 1 _ hr rfl).2
          obtain ⟨ao, c, rfl, hc1, hc2, hc3⟩ := (own_sl hown).shape
          have HO := Lib.hid hown
          clear hown
          have hw2 : w.heap.size ≠ w.heap.size + 1 := by omega
          go_wp2
          refine bodyPost_ret (v := .agg #[.slice ao j c, .int .i64 s.length]) (by simp [results, Tryd.results19, go_sem, r0, r1]) rfl ?_
          refine ⟨_, rfl, ?_, (hbel.setCell (p := ⟨w.heap.size, 0, none⟩) (Nat.le_refl _) _).setCell (p := ⟨w.heap.size, 1, none⟩) (Nat.le_refl _) _⟩
          rw [HQ.out, ← HT.out]
          exact own_mono (ownsRow_setCell_below (a := ⟨w.heap.size, 1, none⟩) (ownsRow_setCell_below (a := ⟨w.heap.size, 0, none⟩) HO.out (show w.heap.size < w.heap.size + 2 by omega) _) (show w.heap.size < w.heap.size + 2 by omega) _) (by omega)
end Go.Proofs.YtbifhmbfmoeofaaDoor.Bits
