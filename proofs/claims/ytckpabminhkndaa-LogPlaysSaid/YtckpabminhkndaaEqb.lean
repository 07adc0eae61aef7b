/-
  The walk of slices.Equal at []byte.
-/
import Derived.Test.YtckpabminhkndaaLib3
import Derived.Test.YtckpabminhkndaaBits0
import Derived.Deep.QuietTactic
import Derived.BigQuiet
import Derived.IntWalk
namespace Go.Proofs.Ytckpabminhkndaa.Eqb
open Go.RowKit Go.Gh
set_option linter.unusedVariables false
theorem take_snoc1 (l : List Int) {i : Nat} (h : i < l.length) : l.take i ++ [l.getD i 0] = l.take (i + 1) := by
  rw [List.take_succ_eq_append_getElem h, List.getD_eq_getElem?_getD, List.getElem?_eq_getElem h]
  rfl
theorem take_eq_step {l l' : List Int} {k : Nat} (h : l.take k = l'.take k) (hk : k < l.length) (hk' : k < l'.length) (he : l.getD k 0 = l'.getD k 0) : l.take (k + 1) = l'.take (k + 1) := by
  rw [← take_snoc1 l hk, ← take_snoc1 l' hk', h, he]
theorem ne_at {l l' : List Int} {k : Nat} (he : ¬ l.getD k 0 = l'.getD k 0) : ¬ l = l' := fun h => he (by rw [h])
set_option maxRecDepth 100000 in
theorem eqb_any (v v' : Value) (n n' : Nat) (l l' : List Int) (w : World) (hs : Sl w 1 v n (l.map (Value.int .u8))) (ht : Sl w 1 v' n' (l'.map (Value.int .u8))) (hl : l.length = n) (hl' : l'.length = n') :
    Calls Try.prog 40 #[v, v'] w fun e w' => e = .returned (.bool (decide (l = l'))) ∧ Below w.heap.size w w' := by
  obtain ⟨ao, c, rfl, hnc, hc, _⟩ := hs.shape
  obtain ⟨bo, d, rfl, hod, hd, _⟩ := ht.shape
  have HL := Lib.hid hl
  have HL' := Lib.hid hl'
  by_cases hne : n = n'
  case neg =>
    have HF : Hid (decide (l = l') = false) := Lib.hid (decide_eq_false fun h => hne (by rw [← hl, ← hl', h]))
    have t1 : ((n : Int) != (n' : Int)) = true := by rw [bne_iff_ne]; omega
    clear hl hl' hne
    go_enter Try.func40, Try.ntmps40
    go_wp2_with fail
    go_ret
    exact ⟨ret_bool HF.out.symm, Below.refl _ _⟩
  subst hne
  clear hl hl'
  have t1 : ((n : Int) != (n : Int)) = false := by simp
  go_enter Try.func40, Try.ntmps40
  go_wp2_with fail
  go_loopw [5, 13] (fun _ i wr => ∃ k : Nat, k ≤ n ∧ i = .int .i64 k ∧ Below w.heap.size w wr ∧ Hid (l.take k = l'.take k)) (fun _ i _ => n - (intOf i).toNat)
  case atStart => exact ⟨0, by omega, rfl, Below.refl _ _, rfl⟩
  case round =>
    obtain ⟨k, hk, rfl, hbr, HE⟩ := hrel
    by_cases hlt : k < n
    · obtain ⟨b, off, rfl, hc1⟩ := (hs.below hbr).int (i := k) hlt
      obtain ⟨b', off', rfl, hc2⟩ := (ht.below hbr).int (i := k) hlt
      by_cases heq : l.getD k 0 = l'.getD k 0
      · have HN : Hid (l.take (k + 1) = l'.take (k + 1)) := Lib.hid (take_eq_step HE.out (by have := HL.out; omega) (by have := HL'.out; omega) heq)
        rw [heq] at hc1
        clear heq
        generalize l'.getD k 0 = z at *
        have hz : (z != z) = false := by simp
        go_wp2_with fail
        go_quiet (fail)
        go_wp2
        go_roundw
        case rel => exact ⟨k + 1, by omega, by go_num, below_drewN hbr _, HN⟩
        case measure => simp [intOf]; omega
      · have HF : Hid (decide (l = l') = false) := Lib.hid (decide_eq_false (ne_at heq))
        generalize l'.getD k 0 = z at *
        generalize l.getD k 0 = y at *
        have hz : (y != z) = true := by rw [bne_iff_ne]; exact heq
        clear heq
        go_wp2_with fail
        go_quiet (fail)
        go_wp2
        go_ret
        exact ⟨ret_bool HF.out.symm, below_drewN hbr _⟩
    · obtain rfl : k = n := by omega
      have HF : Hid (decide (l = l') = true) := Lib.hid (decide_eq_true (by
        have h := HE.out
        rwa [List.take_of_length_le (by rw [HL.out]; exact Nat.le_refl _), List.take_of_length_le (by rw [HL'.out]; exact Nat.le_refl _)] at h))
      go_wp2_with fail
      go_ret
      exact ⟨ret_bool HF.out.symm, hbr⟩
end Go.Proofs.Ytckpabminhkndaa.Eqb
