/-
  The walks of package bits: numbers as bytes; and of the references to them.
-/
import Derived.Test.YtbifhmbfmoeofaaDoorRows
import Derived.Test.YtbifhmbfmoeofaaDoorLib
import Derived.Test.YtbifhmbfmoeofaaDoorBitsLaw
import Derived.Handy
namespace Go.Proofs.YtbifhmbfmoeofaaDoor.Bits
open Go.RowKit Go.Gh
set_option linter.unusedVariables false

def zigI (n : Int) : Int := if n < 0 then -2 * n - 1 else 2 * n
def zagI (u : Int) : Int := if u % 2 = 1 then -(u / 2) - 1 else u / 2

/-- A number off the front of bytes, from byte i on with u so far: (number, how many bytes, error). -/
def takeS (u : Int) (i : Nat) : List Int → Int × Int × Int
  | [] => (0, 0, 3)
  | b :: rest => if (i = 9 ∧ 1 < b) ∨ (0 < i ∧ b = 0) then (0, 0, 4) else
    if b < 128 then (u + b % 128 * 2 ^ (7 * i), i + 1, 0) else takeS (u + b % 128 * 2 ^ (7 * i)) (i + 1) rest
def ret3 (r : Int × Int × Int) : Ending := .returned (.tuple #[.int .u64 r.1, .int .i64 r.2.1, .int .i64 r.2.2])

theorem ret3_mk {a b c : Int} {r : Int × Int × Int} {a' b' c' : Int} (ha : a = a') (hb : b = b') (hc : c = c') (h : (a', b', c') = r) : Ending.returned (.tuple #[.int .u64 a, .int .i64 b, .int .i64 c]) = ret3 r := by
  subst ha hb hc h; rfl
theorem take_end (U z : Int) (k : Nat) (l : List Int) (hs : Hid (takeS U k (l.drop k) = takeS 0 0 l)) (HC : Hid (l.drop k = z :: l.drop (k + 1))) (h1 : ¬ ((k = 9 ∧ 1 < z) ∨ (0 < k ∧ z = 0))) (h2 : z < 128) :
    (U + z % 128 * 2 ^ (7 * k), (k : Int) + 1, 0) = takeS 0 0 l := by
  rw [← hs.out, HC.out]
  simp only [takeS, if_neg h1, if_pos h2]
theorem take_more (U z : Int) (k : Nat) (l : List Int) (hs : Hid (takeS U k (l.drop k) = takeS 0 0 l)) (HC : Hid (l.drop k = z :: l.drop (k + 1))) (h1 : ¬ ((k = 9 ∧ 1 < z) ∨ (0 < k ∧ z = 0))) (h2 : ¬ z < 128) :
    Hid (takeS (U + z % 128 * 2 ^ (7 * k)) (k + 1) (l.drop (k + 1)) = takeS 0 0 l) := by
  show _ = _
  rw [← hs.out, HC.out]
  simp only [takeS, if_neg h1, if_neg h2]

theorem pow_split (k : Nat) (hk : k ≤ 9) : (2 : Int) ^ (7 * k) ≤ 9223372036854775808 := by
  rw [show (2 : Int) ^ (7 * k) = ((2 ^ (7 * k) : Nat) : Int) from by rw [Int.natCast_pow]; rfl]
  have : 2 ^ (7 * k) ≤ 2 ^ 63 := Nat.pow_le_pow_right (by omega) (by omega)
  have e : 2 ^ 63 = 9223372036854775808 := by decide
  omega
theorem or_lo (U z : Int) (k : Nat) (hU0 : 0 ≤ U) (hz0 : 0 ≤ z) : 0 ≤ U + z % 128 * 2 ^ (7 * k) :=
  Int.add_nonneg hU0 (Int.mul_nonneg (by omega) (Int.le_of_lt (Int.pow_pos (by omega))))
theorem or_hi (U z : Int) (k : Nat) (hU1 : U < 2 ^ (7 * k)) (hz0 : 0 ≤ z) : U + z % 128 * 2 ^ (7 * k) < 2 ^ (7 * (k + 1)) := by
  have e : (2 : Int) ^ (7 * (k + 1)) = 128 * 2 ^ (7 * k) := by rw [show 7 * (k + 1) = 7 * k + 7 from by omega, Int.pow_add, Int.mul_comm]; rfl
  rw [e]
  have h1 : z % 128 ≤ 127 := by omega
  have h2 : z % 128 * 2 ^ (7 * k) ≤ 127 * 2 ^ (7 * k) := Int.mul_le_mul_of_nonneg_right h1 (Int.le_of_lt (Int.pow_pos (by omega)))
  omega
theorem or_top (U z : Int) (k : Nat) (hk : k ≤ 9) (hU1 : U < 2 ^ (7 * k)) (hz0 : 0 ≤ z) (h9 : k = 9 → z ≤ 1) : z % 128 * 2 ^ (7 * k) ≤ 9223372036854775808 := by
  by_cases h : k = 9
  · subst h
    have := h9 rfl
    have h1 : z % 128 ≤ 1 := by omega
    have h2 : z % 128 * 2 ^ (7 * 9) ≤ 1 * 2 ^ (7 * 9) := Int.mul_le_mul_of_nonneg_right h1 (by decide)
    simpa using h2
  · have h1 : z % 128 ≤ 128 := by omega
    have h2 : z % 128 * 2 ^ (7 * k) ≤ 128 * 2 ^ (7 * k) := Int.mul_le_mul_of_nonneg_right h1 (Int.le_of_lt (Int.pow_pos (by omega)))
    rw [show (2 : Int) ^ (7 * k) = ((2 ^ (7 * k) : Nat) : Int) from by rw [Int.natCast_pow]; rfl] at h2 ⊢
    have h3 : 2 ^ (7 * k) ≤ 2 ^ 56 := Nat.pow_le_pow_right (by omega) (by omega)
    have h4 : 2 ^ 56 = 72057594037927936 := by decide
    omega
theorem or_step (U z : Int) (k : Nat) (hk : k ≤ 9) (hU0 : 0 ≤ U) (hU1 : U < 2 ^ (7 * k)) (hz0 : 0 ≤ z) (hz1 : z < 256) (h9 : k = 9 → z ≤ 1) :
    bits .or .u64 U (IntKind.u64.wrap (IntKind.u64.wrap (bits .and .u8 z 127) * 2 ^ (7 * k))) = U + z % 128 * 2 ^ (7 * k) := by
  have e1 : bits .and .u8 z 127 = z % 128 := by
    rw [u8_and z 127 hz0 hz1 (by decide) (by decide), show (127 : Int).toNat = 127 from rfl, nat_mask7]
    omega
  have hp : (0 : Int) < 2 ^ (7 * k) := Int.pow_pos (by omega)
  have h5 := or_top U z k hk hU1 hz0 h9
  have h6 : 0 ≤ z % 128 * 2 ^ (7 * k) := Int.mul_nonneg (by omega) (Int.le_of_lt hp)
  have e2 : IntKind.u64.wrap (z % 128) = z % 128 := by rw [IntKind.wrap_u64]; omega
  have e3 : IntKind.u64.wrap (z % 128 * 2 ^ (7 * k)) = z % 128 * 2 ^ (7 * k) := by rw [IntKind.wrap_u64]; exact Int.emod_eq_of_lt h6 (by omega)
  rw [e1, e2, e3]
  have h7 := pow_split k hk
  rw [u64_or _ _ hU0 (by omega) h6 (by omega), Nat.or_comm, nat_join (7 * k)]
  · omega
  · have : z % 128 * 2 ^ (7 * k) = (((z % 128).toNat * 2 ^ (7 * k) : Nat) : Int) := by
      rw [Int.natCast_mul, Int.natCast_pow, Int.toNat_of_nonneg (by omega)]; rfl
    rw [this, Int.toNat_natCast]
    exact Nat.mul_mod_left _ _
  · have : (2 : Int) ^ (7 * k) = ((2 ^ (7 * k) : Nat) : Int) := by rw [Int.natCast_pow]; rfl
    omega
theorem take_any (v : Value) (n : Nat) (l : List Int) (w : World) (hv : Sl w 1 v n (l.map (Value.int .u8))) (hl : ∀ z ∈ l, (Lit.int .u8 z).wf = true) :
    Calls Tryd.prog 52 #[v] w fun e w' => e = ret3 (takeS 0 0 l) ∧ w = w' := by
  obtain ⟨ao, c, rfl, hn, hc, hlen⟩ := hv.shape
  go_enter Tryd.func52, Tryd.ntmps52
  go_wp2_with fail
  go_loop [5, 6] (fun x i => ∃ (k : Nat) (U : Int), k ≤ n ∧ k ≤ 9 ∧ i = .int .i64 k ∧ x = .int .u64 U ∧ 0 ≤ U ∧ U < 2 ^ (7 * k) ∧ Hid (takeS U k (l.drop k) = takeS 0 0 l)) (fun _ i => n - (intOf i).toNat)
  case atStart => exact ⟨0, 0, by omega, by omega, rfl, rfl, by omega, by decide, rfl⟩
  case round =>
    obtain ⟨k, U, hk, hk9, rfl, rfl, hU0, hU1, hs⟩ := hrel
    by_cases hlt : k < n
    · obtain ⟨b, off, z, rfl, hcell, hz0, hz1, HZ⟩ := hv.byte hl hlt
      have hnl : ((n : Int) ≤ k) = False := by simp; omega
      have hcons : l.drop k = z :: l.drop (k + 1) := by
        have : k < l.length := by simp at hlen; omega
        rw [List.drop_eq_getElem_cons this]
        have := HZ.out
        rw [List.getD_eq_getElem?_getD, List.getElem?_eq_getElem (by simp at hlen; omega)] at this
        rw [show l[k] = z from by simpa using this]
      have HC := Lib.hid hcons
      clear hcons hnl
      by_cases h9 : k = 9
      · subst h9
        by_cases hz : 1 < z
        · go_wp2
          go_ret3
          refine ⟨?_, rfl⟩
          rw [← hs.out, HC.out]
          simp [takeS, hz, ret3]
        · by_cases hz0' : z = 0
          · subst hz0'
            go_wp2
            go_ret3
            refine ⟨?_, rfl⟩
            rw [← hs.out, HC.out]
            simp [takeS, ret3]
          · have hz1' : (z == 0) = false := by simp [hz0']
            go_wp2
            go_ret3
            refine ⟨ret3_mk (or_step U z 9 (by omega) hU0 hU1 hz0 hz1 (by omega)) rfl rfl (take_end U z 9 l hs HC (by omega) (by omega)), rfl⟩
      · have h9' : ((k : Int) == 9) = false := by simp; omega
        by_cases hk0 : 0 < k
        · by_cases hz0' : z = 0
          · subst hz0'
            go_wp2
            go_ret3
            refine ⟨?_, rfl⟩
            rw [← hs.out, HC.out]
            simp [takeS, ret3, hk0]
          · have hz1' : (z == 0) = false := by simp [hz0']
            by_cases hz8 : z < 128
            · go_wp2
              go_ret3
              refine ⟨ret3_mk ?_ rfl rfl (take_end U z k l hs HC (by omega) (by omega)), rfl⟩
              exact or_step U z k hk9 hU0 hU1 hz0 hz1 (by omega)
            · go_wp2
              go_round
              case rel => exact ⟨k + 1, _, by omega, by omega, by go_num, rfl, by rw [or_step U z k hk9 hU0 hU1 hz0 hz1 (by omega)]; exact or_lo U z k hU0 hz0, by rw [or_step U z k hk9 hU0 hU1 hz0 hz1 (by omega)]; exact or_hi U z k hU1 hz0, by rw [or_step U z k hk9 hU0 hU1 hz0 hz1 (by omega)]; exact take_more U z k l hs HC (by omega) (by omega)⟩
              case measure => simp [intOf]; omega
        · obtain rfl : k = 0 := by omega
          have hcell0 : w.cell? ⟨b, off, none⟩ = some (.int .u8 z) := by simpa using hcell
          have HO : Hid (bits .or .u64 U (IntKind.u64.wrap (IntKind.u64.wrap (bits .and .u8 z 127))) = U + z % 128 * 2 ^ (7 * 0)) := by
            have := or_step U z 0 (by omega) hU0 hU1 hz0 hz1 (by omega)
            rw [show (2 : Int) ^ (7 * 0) = 1 from rfl, Int.mul_one, Int.mul_one] at this
            rw [show (2 : Int) ^ (7 * 0) = 1 from rfl, Int.mul_one]
            exact this
          by_cases hz8 : z < 128
          · go_wp2
            go_ret3
            refine ⟨ret3_mk HO.out rfl rfl (take_end U z 0 l hs HC (by omega) (by omega)), rfl⟩
          · go_wp2
            go_round
            case rel => exact ⟨1, _, by omega, by omega, rfl, rfl, by rw [HO.out]; exact or_lo U z 0 hU0 hz0, by rw [HO.out]; exact or_hi U z 0 hU1 hz0, by rw [HO.out]; exact take_more U z 0 l hs HC (by omega) (by omega)⟩
            case measure => simp [intOf]; omega
    · obtain rfl : k = n := by omega
      have hnil : l.drop k = [] := List.drop_eq_nil_of_le (by simp at hlen; omega)
      have HN := Lib.hid hnil
      clear hnil
      go_wp2
      go_ret3
      refine ⟨?_, rfl⟩
      rw [← hs.out, HN.out]
      rfl

theorem plus_step (U z B : Int) (k : Nat) (hB : Hid (B = 2 ^ (7 * k))) (hk : k ≤ 9) (hU0 : 0 ≤ U) (hU1 : U < 2 ^ (7 * k)) (hz0 : 0 ≤ z) (hz1 : z < 256) (h9 : k = 9 → z ≤ 1) :
    IntKind.u64.wrap (U + IntKind.u64.wrap (z % 128 * B)) = U + z % 128 * 2 ^ (7 * k) := by
  rw [hB.out]
  have h5 := or_top U z k hk hU1 hz0 h9
  have h6 : 0 ≤ z % 128 * 2 ^ (7 * k) := Int.mul_nonneg (by omega) (Int.le_of_lt (Int.pow_pos (by omega)))
  have h7 := pow_split k hk
  generalize z % 128 * 2 ^ (7 * k) = y at *
  rw [IntKind.wrap_u64, IntKind.wrap_u64]
  omega
theorem by_step (B : Int) (k : Nat) (hB : Hid (B = 2 ^ (7 * k))) (hk : k ≤ 8) : IntKind.u64.wrap (B * 128) = 2 ^ (7 * (k + 1)) := by
  have e : (2 : Int) ^ (7 * (k + 1)) = 2 ^ (7 * k) * 128 := by rw [show 7 * (k + 1) = 7 * k + 7 from by omega, Int.pow_add]; rfl
  have h1 := pow_split (k + 1) (by omega)
  have h2 : (0 : Int) < 2 ^ (7 * k) := Int.pow_pos (by omega)
  rw [hB.out, ← e, IntKind.wrap_u64]
  rw [e] at h1 ⊢
  omega

theorem numof_any (v : Value) (n : Nat) (l : List Int) (w : World) (hv : Sl w 1 v n (l.map (Value.int .u8))) (hl : ∀ z ∈ l, (Lit.int .u8 z).wf = true) :
    Calls Tryd.prog 34 #[v] w fun e w' => e = ret3 (takeS 0 0 l) ∧ w = w' := by
  obtain ⟨ao, c, rfl, hn, hc, hlen⟩ := hv.shape
  go_enter Tryd.func34, Tryd.ntmps34
  go_wp2_with fail
  go_loop [5, 6, 10] (fun x y i => ∃ (k : Nat) (U B : Int), k ≤ n ∧ k ≤ 9 ∧ i = .int .i64 k ∧ x = .int .u64 U ∧ y = .int .u64 B ∧ 0 ≤ U ∧ U < 2 ^ (7 * k) ∧ Hid (B = 2 ^ (7 * k)) ∧ Hid (takeS U k (l.drop k) = takeS 0 0 l)) (fun _ _ i => n - (intOf i).toNat)
  case atStart => exact ⟨0, 0, 1, by omega, by omega, rfl, rfl, rfl, by omega, by decide, rfl, rfl⟩
  case round =>
    obtain ⟨k, U, B, hk, hk9, rfl, rfl, rfl, hU0, hU1, hB, hs⟩ := hrel
    by_cases hlt : k < n
    · obtain ⟨b, off, z, rfl, hcell, hz0, hz1, HZ⟩ := hv.byte hl hlt
      have hcons : l.drop k = z :: l.drop (k + 1) := by
        have : k < l.length := by simp at hlen; omega
        rw [List.drop_eq_getElem_cons this]
        have := HZ.out
        rw [List.getD_eq_getElem?_getD, List.getElem?_eq_getElem (by simp at hlen; omega)] at this
        rw [show l[k] = z from by simpa using this]
      have HC := Lib.hid hcons
      clear hcons
      by_cases h9 : k = 9
      · subst h9
        by_cases hz : 1 < z
        · go_wp2
          go_ret3
          refine ⟨?_, rfl⟩
          rw [← hs.out, HC.out]
          simp [takeS, hz, ret3]
        · by_cases hz0' : z = 0
          · subst hz0'
            go_wp2
            go_ret3
            refine ⟨?_, rfl⟩
            rw [← hs.out, HC.out]
            simp [takeS, ret3]
          · have hz1' : (z == 0) = false := by simp [hz0']
            go_wp2
            go_ret3
            exact ⟨ret3_mk (plus_step U z B 9 hB (by omega) hU0 hU1 hz0 hz1 (by omega)) rfl rfl (take_end U z 9 l hs HC (by omega) (by omega)), rfl⟩
      · have h9' : ((k : Int) == 9) = false := by simp; omega
        by_cases hk0 : 0 < k
        · by_cases hz0' : z = 0
          · subst hz0'
            go_wp2
            go_ret3
            refine ⟨?_, rfl⟩
            rw [← hs.out, HC.out]
            simp [takeS, ret3, hk0]
          · have hz1' : (z == 0) = false := by simp [hz0']
            by_cases hz8 : z < 128
            · go_wp2
              go_ret3
              exact ⟨ret3_mk (plus_step U z B k hB (by omega) hU0 hU1 hz0 hz1 (by omega)) rfl rfl (take_end U z k l hs HC (by omega) (by omega)), rfl⟩
            · go_wp2
              go_round
              case rel => exact ⟨k + 1, _, _, by omega, by omega, by go_num, rfl, rfl, by rw [plus_step U z B k hB hk9 hU0 hU1 hz0 hz1 (by omega)]; exact or_lo U z k hU0 hz0, by rw [plus_step U z B k hB hk9 hU0 hU1 hz0 hz1 (by omega)]; exact or_hi U z k hU1 hz0, by_step B k hB (by omega), by rw [plus_step U z B k hB hk9 hU0 hU1 hz0 hz1 (by omega)]; exact take_more U z k l hs HC (by omega) (by omega)⟩
              case measure => simp [intOf]; omega
        · obtain rfl : k = 0 := by omega
          have hcell0 : w.cell? ⟨b, off, none⟩ = some (.int .u8 z) := by simpa using hcell
          by_cases hz8 : z < 128
          · go_wp2
            go_ret3
            exact ⟨ret3_mk (plus_step U z B 0 hB (by omega) hU0 hU1 hz0 hz1 (by omega)) rfl rfl (take_end U z 0 l hs HC (by omega) (by omega)), rfl⟩
          · go_wp2
            go_round
            case rel => exact ⟨1, _, _, by omega, by omega, rfl, rfl, rfl, by rw [plus_step U z B 0 hB (by omega) hU0 hU1 hz0 hz1 (by omega)]; exact or_lo U z 0 hU0 hz0, by rw [plus_step U z B 0 hB (by omega) hU0 hU1 hz0 hz1 (by omega)]; exact or_hi U z 0 hU1 hz0, by_step B 0 hB (by omega), by rw [plus_step U z B 0 hB (by omega) hU0 hU1 hz0 hz1 (by omega)]; exact take_more U z 0 l hs HC (by omega) (by omega)⟩
            case measure => simp [intOf]; omega
    · obtain rfl : k = n := by omega
      have hnil : l.drop k = [] := List.drop_eq_nil_of_le (by simp at hlen; omega)
      have HN := Lib.hid hnil
      clear hnil
      go_wp2
      go_ret3
      refine ⟨?_, rfl⟩
      rw [← hs.out, HN.out]
      rfl
end Go.Proofs.YtbifhmbfmoeofaaDoor.Bits
