/-
  The walks of slices.Equal (numbers, bytes), of TimesOf's 'take' and of 'signed'.
-/
import Derived.Test.YtmbmognhbljliaaDoorDOLaw
import Derived.Test.YtmbmognhbljliaaDoorDelta2
import Derived.Test.YtmbmognhbljliaaDoorXor3
namespace Go.Proofs.YtmbmognhbljliaaDoor.Delta
open Go.RowKit Go.Gh Go.Proofs.YtmbmognhbljliaaDoor.Bits
set_option linter.unusedVariables false
theorem take_eq_step {l l' : List Int} {k : Nat} (h : l.take k = l'.take k) (hk : k < l.length) (hk' : k < l'.length) (he : l.getD k 0 = l'.getD k 0) : l.take (k + 1) = l'.take (k + 1) := by
  rw [← take_more l hk, ← take_more l' hk', h, he]
theorem ne_at {l l' : List Int} {k : Nat} (he : ¬ l.getD k 0 = l'.getD k 0) : ¬ l = l' := fun h => he (by rw [h])
set_option maxRecDepth 100000 in
theorem eqi_any (v v' : Value) (n n' : Nat) (l l' : List Int) (w : World) (hs : Sl w 1 v n (l.map (Value.int .i64))) (ht : Sl w 1 v' n' (l'.map (Value.int .i64))) (hl : l.length = n) (hl' : l'.length = n') :
    Calls Tryd.prog 17 #[v, v'] w fun e w' => e = .returned (.bool (decide (l = l'))) ∧ Below w.heap.size w w' := by
  obtain ⟨ao, c, rfl, hnc, hc, _⟩ := hs.shape
  obtain ⟨bo, d, rfl, hod, hd, _⟩ := ht.shape
  have HL := Lib.hid hl
  have HL' := Lib.hid hl'
  by_cases hne : n = n'
  case neg =>
    have HF : Hid (decide (l = l') = false) := Lib.hid (decide_eq_false fun h => hne (by rw [← hl, ← hl', h]))
    have t1 : ((n : Int) != (n' : Int)) = true := by rw [bne_iff_ne]; omega
    clear hl hl' hne
    go_enter Tryd.func17, Tryd.ntmps17
    go_wp2_with fail
    go_ret
    exact ⟨ret_bool HF.out.symm, Below.refl _ _⟩
  subst hne
  clear hl hl'
  have t1 : ((n : Int) != (n : Int)) = false := by simp
  go_enter Tryd.func17, Tryd.ntmps17
  go_wp2_with fail
  go_loopw [5, 13] (fun _ i wr => ∃ k : Nat, k ≤ n ∧ i = .int .i64 k ∧ Below w.heap.size w wr ∧ Hid (l.take k = l'.take k)) (fun _ i _ => n - (intOf i).toNat)
  case atStart => exact ⟨0, by omega, rfl, Below.refl _ _, rfl⟩
  case round =>
    obtain ⟨k, hk, rfl, hbr, HE⟩ := hrel
    by_cases hlt : k < n
    · obtain ⟨b, off, rfl, hc1⟩ := (hs.below hbr).int (i := k) hlt
      obtain ⟨b', off', rfl, hc2⟩ := (ht.below hbr).int (i := k) hlt
      by_cases heq : l.getD k 0 = l'.getD k 0
      · have HN : Hid (l.take (k + 1) = l'.take (k + 1)) := Lib.hid (take_eq_step HE.out (by have := HL.out; omega) (by have := HL'.out; omega) heq)
        rw [heq] at hc1
        clear heq
        generalize l'.getD k 0 = z at *
        have hz : (z != z) = false := by simp
        go_wp2_with fail
        go_quiet (fail)
        go_wp2
        go_roundw
        case rel => exact ⟨k + 1, by omega, by go_num, below_drewN hbr _, HN⟩
        case measure => simp [intOf]; omega
      · have HF : Hid (decide (l = l') = false) := Lib.hid (decide_eq_false (ne_at heq))
        generalize l'.getD k 0 = z at *
        generalize l.getD k 0 = y at *
        have hz : (y != z) = true := by rw [bne_iff_ne]; exact heq
        clear heq
        go_wp2_with fail
        go_quiet (fail)
        go_wp2
        go_ret
        exact ⟨ret_bool HF.out.symm, below_drewN hbr _⟩
    · obtain rfl : k = n := by omega
      have HF : Hid (decide (l = l') = true) := Lib.hid (decide_eq_true (by
        have h := HE.out
        rwa [List.take_of_length_le (by rw [HL.out]; exact Nat.le_refl _), List.take_of_length_le (by rw [HL'.out]; exact Nat.le_refl _)] at h))
      go_wp2_with fail
      go_ret
      exact ⟨ret_bool HF.out.symm, hbr⟩
set_option maxRecDepth 100000 in
theorem eqb_any (v v' : Value) (n n' : Nat) (l l' : List Int) (w : World) (hs : Sl w 1 v n (l.map (Value.int .u8))) (ht : Sl w 1 v' n' (l'.map (Value.int .u8))) (hl : l.length = n) (hl' : l'.length = n') :
    Calls Tryd.prog 33 #[v, v'] w fun e w' => e = .returned (.bool (decide (l = l'))) ∧ Below w.heap.size w w' := by
  obtain ⟨ao, c, rfl, hnc, hc, _⟩ := hs.shape
  obtain ⟨bo, d, rfl, hod, hd, _⟩ := ht.shape
  have HL := Lib.hid hl
  have HL' := Lib.hid hl'
  by_cases hne : n = n'
  case neg =>
    have HF : Hid (decide (l = l') = false) := Lib.hid (decide_eq_false fun h => hne (by rw [← hl, ← hl', h]))
    have t1 : ((n : Int) != (n' : Int)) = true := by rw [bne_iff_ne]; omega
    clear hl hl' hne
    go_enter Tryd.func33, Tryd.ntmps33
    go_wp2_with fail
    go_ret
    exact ⟨ret_bool HF.out.symm, Below.refl _ _⟩
  subst hne
  clear hl hl'
  have t1 : ((n : Int) != (n : Int)) = false := by simp
  go_enter Tryd.func33, Tryd.ntmps33
  go_wp2_with fail
  go_loopw [5, 13] (fun _ i wr => ∃ k : Nat, k ≤ n ∧ i = .int .i64 k ∧ Below w.heap.size w wr ∧ Hid (l.take k = l'.take k)) (fun _ i _ => n - (intOf i).toNat)
  case atStart => exact ⟨0, by omega, rfl, Below.refl _ _, rfl⟩
  case round =>
    obtain ⟨k, hk, rfl, hbr, HE⟩ := hrel
    by_cases hlt : k < n
    · obtain ⟨b, off, rfl, hc1⟩ := (hs.below hbr).int (i := k) hlt
      obtain ⟨b', off', rfl, hc2⟩ := (ht.below hbr).int (i := k) hlt
      by_cases heq : l.getD k 0 = l'.getD k 0
      · have HN : Hid (l.take (k + 1) = l'.take (k + 1)) := Lib.hid (take_eq_step HE.out (by have := HL.out; omega) (by have := HL'.out; omega) heq)
        rw [heq] at hc1
        clear heq
        generalize l'.getD k 0 = z at *
        have hz : (z != z) = false := by simp
        go_wp2_with fail
        go_quiet (fail)
        go_wp2
        go_roundw
        case rel => exact ⟨k + 1, by omega, by go_num, below_drewN hbr _, HN⟩
        case measure => simp [intOf]; omega
      · have HF : Hid (decide (l = l') = false) := Lib.hid (decide_eq_false (ne_at heq))
        generalize l'.getD k 0 = z at *
        generalize l.getD k 0 = y at *
        have hz : (y != z) = true := by rw [bne_iff_ne]; exact heq
        clear heq
        go_wp2_with fail
        go_quiet (fail)
        go_wp2
        go_ret
        exact ⟨ret_bool HF.out.symm, below_drewN hbr _⟩
    · obtain rfl : k = n := by omega
      have HF : Hid (decide (l = l') = true) := Lib.hid (decide_eq_true (by
        have h := HE.out
        rwa [List.take_of_length_le (by rw [HL.out]; exact Nat.le_refl _), List.take_of_length_le (by rw [HL'.out]; exact Nat.le_refl _)] at h))
      go_wp2_with fail
      go_ret
      exact ⟨ret_bool HF.out.symm, hbr⟩
theorem sx_empty : (⟨#[]⟩ : ByteArray) = sbits [] := rfl
theorem sx_zero : (⟨#[48]⟩ : ByteArray) = sbits [false] := rfl
/-- 'take': what it hands back, what it leaves in the cell that it captured. -/
theorem take_any (n cb : Nat) (s : List Bool) (w : World) (hn : n ≤ 64) (hs : s.length ≤ 100000) (hc : w.cell? ⟨cb, 0, none⟩ = some (.string (sbits s))) (hf : w.frozen? ⟨cb, 0, none⟩ = false) :
    Calls Tryd.prog 34 #[.int .i64 n, .pointer (some ⟨cb, 0, none⟩)] w fun e w' => e = .returned (.string (sbits (tkR n s).1)) ∧ w' = w.setCell ⟨cb, 0, none⟩ (.string (sbits (tkR n s).2)) := by
  have hsz : (sbits s).size = s.length := sbits_size s
  by_cases h : s.length < n
  · have HF : Hid (tkR n s = ([false], [])) := Lib.hid (if_pos h)
    go_enter Tryd.func34, Tryd.ntmps34
    go_wp2_with fail
    go_ret
    rw [HF.out]
    exact ⟨rfl, rfl⟩
  · have HF : Hid (tkR n s = (s.take n, s.drop n)) := Lib.hid (if_neg h)
    have h1 : n ≤ (sbits s).size := by omega
    have HA : Hid ((sbits s).extract 0 n = sbits (s.take n)) := Lib.hid (by rw [Go.Proofs.YtmbmognhbljliaaDoor.Xor.sbits_mid]; simp)
    have HB : Hid ((sbits s).extract n s.length = sbits (s.drop n)) := Lib.hid (by rw [Go.Proofs.YtmbmognhbljliaaDoor.Xor.sbits_mid, List.take_of_length_le (by simp)])
    go_enter Tryd.func34, Tryd.ntmps34
    go_wp2_with fail
    go_ret
    rw [HF.out]
    exact ⟨by rw [HA.out]; rfl, by rw [HB.out]⟩
theorem signed_any (b : List Bool) (hb : 0 < b.length) (hb2 : b.length ≤ 64) (w : World) :
    Calls Tryd.prog 35 #[.string (sbits b)] w fun e w' => e = .returned (.int .i64 (sgR b)) ∧ w' = w := by
  have hsz : (sbits b).size = b.length := sbits_size b
  have h0 : 0 < (sbits b).size := by omega
  have hg := sbits_get b 0 h0 hb
  have hV := valF_bd b
  obtain ⟨V, hVV⟩ : ∃ V, valF 0 b = V := ⟨_, rfl⟩
  have HV := Lib.hid hVV
  go_enter Tryd.func35, Tryd.ntmps35
  go_wp2_with fail
  refine (valueof_any b hb2 _).mono ?_
  rw [hVV]
  rintro e w' ⟨rfl, rfl⟩
  by_cases hbit : b[0] = true
  · have t1 : ((((sbits b)[0]'h0).toNat : Int) == 49) = true := by rw [hg, if_pos hbit]; rfl
    clear hg
    have hget : b.getD 0 false = true := by rw [List.getD_eq_getElem?_getD, List.getElem?_eq_getElem hb]; exact hbit
    have HSG : Hid (sgR b = wI (wU (V + (18446744073709551616 - 2 ^ b.length)))) := Lib.hid (by unfold sgR; rw [if_pos hget, hVV])
    rw [hVV] at hV
    have hp64 : (2 : Int) ^ b.length ≤ 18446744073709551616 := by
      rw [two_pow_cast]
      have h1 : 2 ^ b.length ≤ 2 ^ 64 := Nat.pow_le_pow_right (by decide) hb2
      have h2 : 2 ^ 64 = 18446744073709551616 := by decide
      omega
    obtain ⟨P, hP⟩ : ∃ P, (2 : Int) ^ b.length = P := ⟨_, rfl⟩
    rw [hP] at hV hp64 HSG
    have HP := Lib.hid hP
    clear hP hVV hget
    go_wp2_with fail
    go_loop [3, 4] (fun x i => ∃ k : Nat, b.length ≤ k ∧ k ≤ 64 ∧ i = .int .i64 k ∧ x = .int .u64 (wU (V + (2 ^ k - P)))) (fun _ i => 64 - (intOf i).toNat)
    case atStart => exact ⟨b.length, Nat.le_refl _, hb2, rfl, by rw [HP.out]; congr 1; rw [wU_eq]; omega⟩
    case round =>
      obtain ⟨k, hk1, hk2, rfl, rfl⟩ := hrel
      by_cases hlt : k < 64
      · have hw := wU_bd (V + (2 ^ k - P))
        have HN : Hid (wU (V + (2 ^ (k + 1) - P)) = wU (wU (V + (2 ^ k - P)) + wU (2 ^ k))) := Lib.hid (by
          rw [Int.pow_succ]
          generalize (2 : Int) ^ k = T
          rw [wU_eq, wU_eq, wU_eq, wU_eq]
          omega)
        generalize wU (V + (2 ^ k - P)) = y at *
        go_wp2
        go_round
        case rel => exact ⟨k + 1, by omega, by omega, by go_num, by rw [HN.out]; rfl⟩
        case measure => simp [intOf]; omega
      · obtain rfl : k = 64 := by omega
        go_wp2
        go_ret
        refine ⟨ret_int ?_, rfl⟩
        rw [HSG.out]
        show wrap64 (wU (V + (18446744073709551616 - P))) = _
        unfold wI
        rw [IntWalk.i64_left]
  · have t1 : ((((sbits b)[0]'h0).toNat : Int) == 49) = false := by rw [hg, if_neg hbit]; rfl
    have hget : b.getD 0 false = false := by rw [List.getD_eq_getElem?_getD, List.getElem?_eq_getElem hb]; simpa using hbit
    have HSG : Hid (sgR b = wI V) := Lib.hid (by unfold sgR; rw [if_neg (by rw [hget]; simp), hVV])
    clear hg
    go_wp2_with fail
    go_ret
    refine ⟨ret_int ?_, rfl⟩
    rw [HSG.out]
    unfold wI
    rw [IntWalk.i64_left]
end Go.Proofs.YtmbmognhbljliaaDoor.Delta
