/-
  The walks of the references on bits as noughts and ones.
-/
import Derived.Test.YtbifhmbfmoeofaaDoorBits0
import Derived.Test.YtbifhmbfmoeofaaDoorBitsLaw2
import Derived.Outline
namespace Go.Proofs.YtbifhmbfmoeofaaDoor.Bits
open Go.RowKit Go.Gh Go.WideShapes
set_option linter.unusedVariables false

/-- Bits as a text of noughts and ones. -/
def sbits (s : List Bool) : ByteArray := ⟨(s.map fun b => if b then (49 : UInt8) else 48).toArray⟩
theorem sbits_size (s : List Bool) : (sbits s).size = s.length := by show (sbits s).data.size = _; simp [sbits]
theorem sbits_cons (b : Bool) (s : List Bool) : (⟨[if b then (49 : UInt8) else 48].toArray⟩ : ByteArray) ++ sbits s = sbits (b :: s) := by
  unfold sbits; rw [ByteArray.mk_append_mk]; rfl
theorem sbits_append (s t : List Bool) : sbits s ++ sbits t = sbits (s ++ t) := by
  unfold sbits; rw [ByteArray.mk_append_mk]; simp

theorem enc_bit (U : Int) (v : Int) (k : Nat) (hU : U = v / 2 ^ k) : Utf8.encode (48 + U % 2) = ⟨[if bitI v k then (49 : UInt8) else 48].toArray⟩ := by
  subst hU
  unfold bitI
  rcases (show (v / 2 ^ k) % 2 = 0 ∨ (v / 2 ^ k) % 2 = 1 by omega) with h | h
  · rw [h]; rfl
  · rw [h]; rfl
theorem enc_size (U : Int) : (Utf8.encode (48 + U % 2)).size ≤ 1 := by
  rcases (show U % 2 = 0 ∨ U % 2 = 1 by omega) with h | h
  · rw [h]; decide
  · rw [h]; decide

theorem signs_any (v : Int) (n : Nat) (h0 : 0 ≤ v) (h1 : v < 18446744073709551616) (hn : n ≤ 100000) (w : World) :
    Calls Tryd.prog 38 #[.int .u64 v, .int .i64 n] w fun e w' => e = .returned (.string (sbits (signs v n))) ∧ w = w' := by
  go_enter Tryd.func38, Tryd.ntmps38
  go_wp2_with fail
  go_loop [0, 5, 7] (fun x s i => ∃ (k : Nat) (U : Int) (S : ByteArray), k ≤ n ∧ i = .int .i64 k ∧ x = .int .u64 U ∧ s = .string S ∧ 0 ≤ U ∧ U < 18446744073709551616 ∧ Hid (U = v / 2 ^ k) ∧ Hid (S = sbits (signs v k)) ∧ S.size ≤ k) (fun _ _ i => n - (intOf i).toNat)
  case atStart => exact ⟨0, v, _, by omega, rfl, rfl, rfl, h0, h1, by show _ = _; simp, rfl, by decide⟩
  case round =>
    obtain ⟨k, U, S, hk, rfl, rfl, rfl, hU0, hU1, hU, hS, hsz⟩ := hrel
    by_cases hlt : k < n
    · have hp : 0 ≤ U / 2 := by omega
      have he := enc_size U
      have hsum : (Utf8.encode (48 + U % 2)).size + S.size ≤ 9223372036854775807 := by omega
      go_wp2
      go_round
      case rel =>
        refine ⟨k + 1, _, _, by omega, by go_num, rfl, rfl, hp, by omega, ?_, ?_, ?_⟩
        · show _ = _
          rw [hU.out, Int.ediv_ediv_of_nonneg (Int.le_of_lt (two_pow_pos k)), Int.pow_succ]
        · show _ = _
          rw [enc_bit U v k hU.out, hS.out, sbits_cons]
          rfl
        · rw [ByteArray.size_append]; omega
      case measure => simp [intOf]; omega
    · obtain rfl : k = n := by omega
      go_wp2
      go_ret
      exact ⟨ret_str hS.out, rfl⟩
theorem sbits_get (s : List Bool) (k : Nat) (h : k < (sbits s).size) (h' : k < s.length) : ((sbits s)[k]'h).toNat = if s[k] then 49 else 48 := by
  have e : (sbits s)[k]'h = if s[k] then (49 : UInt8) else 48 := by
    show (sbits s).data[k]'h = _
    simp [sbits]
  rw [e]
  split <;> rfl
theorem take_snoc' {α : Type} (s : List α) (k : Nat) (h : k < s.length) : s.take (k + 1) = s.take k ++ [s[k]] := List.take_succ_eq_append_getElem h
theorem val_take (s : List Bool) (k : Nat) (h : k < s.length) (h64 : s.length ≤ 64) : 0 ≤ valF 0 (s.take k) ∧ valF 0 (s.take k) < 9223372036854775808 := by
  have := valF_bd (s.take k)
  have e : (2 : Int) ^ (s.take k).length ≤ 9223372036854775808 := by
    rw [two_pow_cast]
    have h1 : 2 ^ (s.take k).length ≤ 2 ^ 63 := Nat.pow_le_pow_right (by decide) (by simp; omega)
    have h2 : 2 ^ 63 = 9223372036854775808 := by decide
    omega
  omega
theorem valueof_any (s : List Bool) (hn : s.length ≤ 64) (w : World) :
    Calls Tryd.prog 37 #[.string (sbits s)] w fun e w' => e = .returned (.int .u64 (valF 0 s)) ∧ w = w' := by
  go_enter Tryd.func37, Tryd.ntmps37
  go_wp2_with fail
  go_loop [3, 7] (fun x i => ∃ (k : Nat), k ≤ s.length ∧ i = .int .i64 k ∧ x = .int .u64 (valF 0 (s.take k))) (fun _ i => s.length - (intOf i).toNat)
  case atStart => exact ⟨0, by omega, rfl, rfl⟩
  case round =>
    obtain ⟨k, hk, rfl, rfl⟩ := hrel
    by_cases hlt : k < s.length
    · have hk2 : k < (sbits s).size := by rw [sbits_size]; exact hlt
      have hsz : (sbits s).size ≤ 64 := by rw [sbits_size]; exact hn
      have hg := sbits_get s k hk2 hlt
      have hv := val_take s k hlt hn
      have HE : Hid (valF 0 (s.take (k + 1)) = 2 * valF 0 (s.take k) + b2i s[k]) := by show _ = _; rw [take_snoc' s k hlt, valF_snoc]
      generalize valF 0 (s.take k) = V at *
      obtain ⟨hv0, hv1⟩ := hv
      by_cases hb : s[k] = true
      · have t1 : ((((sbits s)[k]'hk2).toNat : Int) == 49) = true := by rw [hg, if_pos hb]; rfl
        clear hg
        go_wp2
        go_round
        case rel => exact ⟨k + 1, by omega, by go_num, by rw [HE.out, hb]; show _ = Value.int .u64 (2 * V + 1); rw [Int.mul_comm]⟩
        case measure => simp [intOf]; omega
      · have t1 : ((((sbits s)[k]'hk2).toNat : Int) == 49) = false := by rw [hg, if_neg hb]; rfl
        have hb : s[k] = false := by simpa using hb
        clear hg
        go_wp2
        go_round
        case rel => exact ⟨k + 1, by omega, by go_num, by rw [HE.out, hb]; show _ = Value.int .u64 (2 * V + 0); rw [Int.add_zero, Int.mul_comm]⟩
        case measure => simp [intOf]; omega
    · have hz : s.length = (sbits s).size := (sbits_size s).symm
      obtain rfl : k = s.length := by omega
      have hge : (sbits s).size ≤ s.length := by omega
      clear hz
      go_wp2
      go_ret
      exact ⟨rfl, rfl⟩
end Go.Proofs.YtbifhmbfmoeofaaDoor.Bits
