/-
  The walks of the small functions behind xor's Pack: run, backward, size, the noughts ahead and behind.
-/
import Derived.Test.YtbifhmbfmoeofaaDoorXorLaw
import Derived.Test.YtbifhmbfmoeofaaDoorBits3
import Derived.Test.YtbifhmbfmoeofaaDoorLib2
import Derived.Laws.Bits64b
import Derived.IntWalk
namespace Go.Proofs.YtbifhmbfmoeofaaDoor.Xor
open Go.RowKit Go.Gh Go.Proofs.YtbifhmbfmoeofaaDoor.Bits
set_option linter.unusedVariables false

theorem run_any (s : List Bool) (hn : s.length ≤ 100000) (w : World) :
    Calls Tryd.prog 42 #[.string (sbits s)] w fun e w' => e = .returned (.int .i64 (runF s)) ∧ w = w' := by
  go_enter Tryd.func42, Tryd.ntmps42
  go_wp2_with fail
  go_loop [3] (fun i => ∃ (k : Nat), k ≤ s.length ∧ k ≤ runF s ∧ i = .int .i64 k) (fun i => s.length - (intOf i).toNat)
  case atStart => exact ⟨0, by omega, by omega, rfl⟩
  case round =>
    obtain ⟨k, hk, hr, rfl⟩ := hrel
    by_cases hlt : k < s.length
    · have hk2 : k < (sbits s).size := by rw [sbits_size]; exact hlt
      have hsz : (sbits s).size ≤ 100000 := by rw [sbits_size]; exact hn
      have hg := sbits_get s k hk2 hlt
      have hst := runF_step s k hlt hr
      have he : s.getD k false = s[k] := by rw [List.getD_eq_getElem?_getD, List.getElem?_eq_getElem hlt]; rfl
      rw [he] at hst
      by_cases hb : s[k] = true
      · have t1 : ((((sbits s)[k]'hk2).toNat : Int) == 48) = false := by rw [hg, if_pos hb]; rfl
        rw [if_pos hb] at hst
        have HST := Lib.hid hst
        clear hg hst
        go_wp2
        go_ret
        exact ⟨by rw [HST.out]; rfl, rfl⟩
      · have t1 : ((((sbits s)[k]'hk2).toNat : Int) == 48) = true := by rw [hg, if_neg hb]; rfl
        rw [if_neg hb] at hst
        clear hg
        go_wp2
        go_round
        case rel => exact ⟨k + 1, by omega, by omega, by go_num⟩
        case measure => simp [intOf]; omega
    · have hz : s.length = (sbits s).size := (sbits_size s).symm
      obtain rfl : k = s.length := by omega
      have hge : (sbits s).size ≤ s.length := by omega
      have HE := Lib.hid (runF_end hr)
      clear hz
      go_wp2
      go_ret
      exact ⟨by rw [HE.out]; rfl, rfl⟩
theorem sbits_one (s : List Bool) (k : Nat) (h : k < s.length) : (sbits s).extract k (k + 1) = sbits [s.getD k false] := by
  unfold sbits
  rw [ByteArray.extract_mk]
  rw [show k + 1 - k = 1 by omega, List.drop_eq_getElem_cons (by simpa using h)]
  simp [List.getD_eq_getElem?_getD, List.getElem?_eq_getElem h]
theorem backward_any (s : List Bool) (hn : s.length ≤ 100000) (w : World) :
    Calls Tryd.prog 43 #[.string (sbits s)] w fun e w' => e = .returned (.string (sbits s.reverse)) ∧ w = w' := by
  have hsz : (sbits s).size = s.length := sbits_size s
  go_enter Tryd.func43, Tryd.ntmps43
  go_wp2_with fail
  go_loop [3, 4, 7] (fun x _ i => ∃ (k : Nat) (S : ByteArray), k ≤ s.length ∧ i = .int .i64 k ∧ x = .string S ∧ Hid (S = sbits (s.take k).reverse) ∧ S.size ≤ k) (fun _ _ i => s.length - (intOf i).toNat)
  case atStart => exact ⟨0, _, by omega, rfl, rfl, by show _ = _; simp [sbits], by decide⟩
  case round =>
    obtain ⟨k, S, hk, rfl, rfl, hS, hSz⟩ := hrel
    by_cases hlt : k < s.length
    · have h1 : k ≤ (sbits s).size := by omega
      have h2 : k + 1 ≤ (sbits s).size := by omega
      have hx : ((sbits s).extract k (k + 1)).size = 1 := by rw [sbits_one s k hlt, sbits_size]; rfl
      have HX : Hid ((sbits s).extract k (k + 1) ++ S = sbits (s.take (k + 1)).reverse) := by
        show _ = _
        rw [sbits_one s k hlt, hS.out, sbits_append, take_snoc' s k hlt, List.reverse_append]
        simp [List.getD_eq_getElem?_getD, List.getElem?_eq_getElem hlt]
      have hsum : ((sbits s).extract k (k + 1)).size + S.size ≤ 9223372036854775807 := by omega
      go_wp2
      go_round
      case rel =>
        refine ⟨k + 1, _, by omega, by go_num, rfl, HX, ?_⟩
        rw [ByteArray.size_append]; omega
      case measure => simp [intOf]; omega
    · obtain rfl : k = s.length := by omega
      have HE : Hid (S = sbits s.reverse) := by show _ = _; rw [hS.out, List.take_length]
      go_wp2
      go_ret
      exact ⟨ret_str HE.out, rfl⟩
theorem size_any (b : Bool) (ld tl : Int) (h : 0 ≤ ld ∧ 0 ≤ tl ∧ ld + tl ≤ 64) (w : World) :
    Calls Tryd.prog 41 #[.agg #[.bool b, .int .i64 ld, .int .i64 tl]] w fun e w' => e = .returned (.int .i64 (64 - ld - tl)) ∧ Below w.heap.size w w' := by
  go_enter Tryd.func41, Tryd.ntmps41
  go_wp2
  go_ret
  exact ⟨rfl, (Below.refl _ _).alloc (Nat.le_refl _) _⟩
end Go.Proofs.YtbifhmbfmoeofaaDoor.Xor
