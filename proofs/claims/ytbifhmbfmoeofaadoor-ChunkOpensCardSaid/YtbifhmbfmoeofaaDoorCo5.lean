/-
  The walks of package bits: numbers as bytes; and of the references to them.
-/
import Derived.Test.YtbifhmbfmoeofaaDoorCo1
import Derived.Test.YtbifhmbfmoeofaaDoorCo2
import Derived.Test.YtbifhmbfmoeofaaDoorRows
import Derived.Handy
import Derived.OwnWalk
import Derived.Outline
import Derived.Deep.Fields
import Derived.ChangeSame
import Derived.IntWalk
namespace Go.Proofs.YtbifhmbfmoeofaaDoor.Bits
open Go.RowKit Go.Gh
set_option linter.unusedVariables false

def zigI (n : Int) : Int := if n < 0 then -2 * n - 1 else 2 * n
def zagI (u : Int) : Int := if u % 2 = 1 then -(u / 2) - 1 else u / 2

/-- A number off the front of bytes, from byte i on with u so far: (number, how many bytes, error). -/
def takeS (u : Int) (i : Nat) : List Int → Int × Int × Int
  | [] => (0, 0, 3)
  | b :: rest => if (i = 9 ∧ 1 < b) ∨ (0 < i ∧ b = 0) then (0, 0, 4) else
    if b < 128 then (u + b % 128 * 2 ^ (7 * i), i + 1, 0) else takeS (u + b % 128 * 2 ^ (7 * i)) (i + 1) rest
def ret3 (r : Int × Int × Int) : Ending := .returned (.tuple #[.int .u64 r.1, .int .i64 r.2.1, .int .i64 r.2.2])

theorem ret3_mk {a b c : Int} {r : Int × Int × Int} {a' b' c' : Int} (ha : a = a') (hb : b = b') (hc : c = c') (h : (a', b', c') = r) : Ending.returned (.tuple #[.int .u64 a, .int .i64 b, .int .i64 c]) = ret3 r := by
  subst ha hb hc h; rfl
theorem take_end (U z : Int) (k : Nat) (l : List Int) (hs : Hid (takeS U k (l.drop k) = takeS 0 0 l)) (HC : Hid (l.drop k = z :: l.drop (k + 1))) (h1 : ¬ ((k = 9 ∧ 1 < z) ∨ (0 < k ∧ z = 0))) (h2 : z < 128) :
    (U + z % 128 * 2 ^ (7 * k), (k : Int) + 1, 0) = takeS 0 0 l := by
  rw [← hs.out, HC.out]
  simp only [takeS, if_neg h1, if_pos h2]
theorem take_more (U z : Int) (k : Nat) (l : List Int) (hs : Hid (takeS U k (l.drop k) = takeS 0 0 l)) (HC : Hid (l.drop k = z :: l.drop (k + 1))) (h1 : ¬ ((k = 9 ∧ 1 < z) ∨ (0 < k ∧ z = 0))) (h2 : ¬ z < 128) :
    Hid (takeS (U + z % 128 * 2 ^ (7 * k)) (k + 1) (l.drop (k + 1)) = takeS 0 0 l) := by
  show _ = _
  rw [← hs.out, HC.out]
  simp only [takeS, if_neg h1, if_neg h2]

theorem pow_split (k : Nat) (hk : k ≤ 9) : (2 : Int) ^ (7 * k) ≤ 9223372036854775808 := by
  rw [show (2 : Int) ^ (7 * k) = ((2 ^ (7 * k) : Nat) : Int) from by rw [Int.natCast_pow]; rfl]
  have : 2 ^ (7 * k) ≤ 2 ^ 63 := Nat.pow_le_pow_right (by omega) (by omega)
  have e : 2 ^ 63 = 9223372036854775808 := by decide
  omega
theorem or_lo (U z : Int) (k : Nat) (hU0 : 0 ≤ U) (hz0 : 0 ≤ z) : 0 ≤ U + z % 128 * 2 ^ (7 * k) :=
  Int.add_nonneg hU0 (Int.mul_nonneg (by omega) (Int.le_of_lt (Int.pow_pos (by omega))))
theorem or_hi (U z : Int) (k : Nat) (hU1 : U < 2 ^ (7 * k)) (hz0 : 0 ≤ z) : U + z % 128 * 2 ^ (7 * k) < 2 ^ (7 * (k + 1)) := by
  have e : (2 : Int) ^ (7 * (k + 1)) = 128 * 2 ^ (7 * k) := by rw [show 7 * (k + 1) = 7 * k + 7 from by omega, Int.pow_add, Int.mul_comm]; rfl
  rw [e]
  have h1 : z % 128 ≤ 127 := by omega
  have h2 : z % 128 * 2 ^ (7 * k) ≤ 127 * 2 ^ (7 * k) := Int.mul_le_mul_of_nonneg_right h1 (Int.le_of_lt (Int.pow_pos (by omega)))
  omega
theorem or_top (U z : Int) (k : Nat) (hk : k ≤ 9) (hU1 : U < 2 ^ (7 * k)) (hz0 : 0 ≤ z) (h9 : k = 9 → z ≤ 1) : z % 128 * 2 ^ (7 * k) ≤ 9223372036854775808 := by
  by_cases h : k = 9
  · subst h
    have := h9 rfl
    have h1 : z % 128 ≤ 1 := by omega
    have h2 : z % 128 * 2 ^ (7 * 9) ≤ 1 * 2 ^ (7 * 9) := Int.mul_le_mul_of_nonneg_right h1 (by decide)
    simpa using h2
  · have h1 : z % 128 ≤ 128 := by omega
    have h2 : z % 128 * 2 ^ (7 * k) ≤ 128 * 2 ^ (7 * k) := Int.mul_le_mul_of_nonneg_right h1 (Int.le_of_lt (Int.pow_pos (by omega)))
    rw [show (2 : Int) ^ (7 * k) = ((2 ^ (7 * k) : Nat) : Int) from by rw [Int.natCast_pow]; rfl] at h2 ⊢
    have h3 : 2 ^ (7 * k) ≤ 2 ^ 56 := Nat.pow_le_pow_right (by omega) (by omega)
    have h4 : 2 ^ 56 = 72057594037927936 := by decide
    omega
theorem or_step (U z : Int) (k : Nat) (hk : k ≤ 9) (hU0 : 0 ≤ U) (hU1 : U < 2 ^ (7 * k)) (hz0 : 0 ≤ z) (hz1 : z < 256) (h9 : k = 9 → z ≤ 1) :
    bits .or .u64 U (IntKind.u64.wrap (IntKind.u64.wrap (bits .and .u8 z 127) * 2 ^ (7 * k))) = U + z % 128 * 2 ^ (7 * k) := by
  have e1 : bits .and .u8 z 127 = z % 128 := by
    rw [u8_and z 127 hz0 hz1 (by decide) (by decide), show (127 : Int).toNat = 127 from rfl, nat_mask7]
    omega
  have hp : (0 : Int) < 2 ^ (7 * k) := Int.pow_pos (by omega)
  have h5 := or_top U z k hk hU1 hz0 h9
  have h6 : 0 ≤ z % 128 * 2 ^ (7 * k) := Int.mul_nonneg (by omega) (Int.le_of_lt hp)
  have e2 : IntKind.u64.wrap (z % 128) = z % 128 := by rw [IntKind.wrap_u64]; omega
  have e3 : IntKind.u64.wrap (z % 128 * 2 ^ (7 * k)) = z % 128 * 2 ^ (7 * k) := by rw [IntKind.wrap_u64]; exact Int.emod_eq_of_lt h6 (by omega)
  rw [e1, e2, e3]
  have h7 := pow_split k hk
  rw [u64_or _ _ hU0 (by omega) h6 (by omega), Nat.or_comm, nat_join (7 * k)]
  · omega
  · have : z % 128 * 2 ^ (7 * k) = (((z % 128).toNat * 2 ^ (7 * k) : Nat) : Int) := by
      rw [Int.natCast_mul, Int.natCast_pow, Int.toNat_of_nonneg (by omega)]; rfl
    rw [this, Int.toNat_natCast]
    exact Nat.mul_mod_left _ _
  · have : (2 : Int) ^ (7 * k) = ((2 ^ (7 * k) : Nat) : Int) := by rw [Int.natCast_pow]; rfl
    omega
theorem take_any (v : Value) (n : Nat) (l : List Int) (w : World) (hv : Sl w 1 v n (l.map (Value.int .u8))) (hl : ∀ z ∈ l, (Lit.int .u8 z).wf = true) :
    Calls Tryd.prog 52 #[v] w fun e w' => e = ret3 (takeS 0 0 l) ∧ w = w' := by
  obtain ⟨ao, c, rfl, hn, hc, hlen⟩ := hv.shape
  go_enter Tryd.func52, Tryd.ntmps52
  go_wp2_with fail
  go_loop [5, 6] (fun x i => ∃ (k : Nat) (U : Int), k ≤ n ∧ k ≤ 9 ∧ i = .int .i64 k ∧ x = .int .u64 U ∧ 0 ≤ U ∧ U < 2 ^ (7 * k) ∧ Hid (takeS U k (l.drop k) = takeS 0 0 l)) (fun _ i => n - (intOf i).toNat)
  case atStart => exact ⟨0, 0, by omega, by omega, rfl, rfl, by omega, by decide, rfl⟩
  case round =>
    obtain ⟨k, U, hk, hk9, rfl, rfl, hU0, hU1, hs⟩ := hrel
    by_cases hlt : k < n
    · obtain ⟨b, off, z, rfl, hcell, hz0, hz1, HZ⟩ := hv.byte hl hlt
      have hnl : ((n : Int) ≤ k) = False := by simp; omega
      have hcons : l.drop k = z :: l.drop (k + 1) := by
        have : k < l.length := by simp at hlen; omega
        rw [List.drop_eq_getElem_cons this]
        have := HZ.out
        rw [List.getD_eq_getElem?_getD, List.getElem?_eq_getElem (by simp at hlen; omega)] at this
        rw [show l[k] = z from by simpa using this]
      have HC := Lib.hid hcons
      clear hcons hnl
      by_cases h9 : k = 9
      · subst h9
        by_cases hz : 1 < z
        · go_wp2
          go_ret3
          refine ⟨?_, rfl⟩
          rw [← hs.out, HC.out]
          simp [takeS, hz, ret3]
        · by_cases hz0' : z = 0
          · subst hz0'
            go_wp2
            go_ret3
            refine ⟨?_, rfl⟩
            rw [← hs.out, HC.out]
            simp [takeS, ret3]
          · have hz1' : (z == 0) = false := by simp [hz0']
            go_wp2
            go_ret3
            refine ⟨ret3_mk (or_step U z 9 (by omega) hU0 hU1 hz0 hz1 (by omega)) rfl rfl (take_end U z 9 l hs HC (by omega) (by omega)), rfl⟩
      · have h9' : ((k : Int) == 9) = false := by simp; omega
        by_cases hk0 : 0 < k
        · by_cases hz0' : z = 0
          · subst hz0'
            go_wp2
            go_ret3
            refine ⟨?_, rfl⟩
            rw [← hs.out, HC.out]
            simp [takeS, ret3, hk0]
          · have hz1' : (z == 0) = false := by simp [hz0']
            by_cases hz8 : z < 128
            · go_wp2
              go_ret3
              refine ⟨ret3_mk ?_ rfl rfl (take_end U z k l hs HC (by omega) (by omega)), rfl⟩
              exact or_step U z k hk9 hU0 hU1 hz0 hz1 (by omega)
            · go_wp2
              go_round
              case rel => exact ⟨k + 1, _, by omega, by omega, by go_num, rfl, by rw [or_step U z k hk9 hU0 hU1 hz0 hz1 (by omega)]; exact or_lo U z k hU0 hz0, by rw [or_step U z k hk9 hU0 hU1 hz0 hz1 (by omega)]; exact or_hi U z k hU1 hz0, by rw [or_step U z k hk9 hU0 hU1 hz0 hz1 (by omega)]; exact take_more U z k l hs HC (by omega) (by omega)⟩
              case measure => simp [intOf]; omega
        · obtain rfl : k = 0 := by omega
          have hcell0 : w.cell? ⟨b, off, none⟩ = some (.int .u8 z) := by simpa using hcell
          have HO : Hid (bits .or .u64 U (IntKind.u64.wrap (IntKind.u64.wrap (bits .and .u8 z 127))) = U + z % 128 * 2 ^ (7 * 0)) := by
            have := or_step U z 0 (by omega) hU0 hU1 hz0 hz1 (by omega)
            rw [show (2 : Int) ^ (7 * 0) = 1 from rfl, Int.mul_one, Int.mul_one] at this
            rw [show (2 : Int) ^ (7 * 0) = 1 from rfl, Int.mul_one]
            exact this
          by_cases hz8 : z < 128
          · go_wp2
            go_ret3
            refine ⟨ret3_mk HO.out rfl rfl (take_end U z 0 l hs HC (by omega) (by omega)), rfl⟩
          · go_wp2
            go_round
            case rel => exact ⟨1, _, by omega, by omega, rfl, rfl, by rw [HO.out]; exact or_lo U z 0 hU0 hz0, by rw [HO.out]; exact or_hi U z 0 hU1 hz0, by rw [HO.out]; exact take_more U z 0 l hs HC (by omega) (by omega)⟩
            case measure => simp [intOf]; omega
    · obtain rfl : k = n := by omega
      have hnil : l.drop k = [] := List.drop_eq_nil_of_le (by simp at hlen; omega)
      have HN := Lib.hid hnil
      clear hnil
      go_wp2
      go_ret3
      refine ⟨?_, rfl⟩
      rw [← hs.out, HN.out]
      rfl

theorem plus_step (U z B : Int) (k : Nat) (hB : Hid (B = 2 ^ (7 * k))) (hk : k ≤ 9) (hU0 : 0 ≤ U) (hU1 : U < 2 ^ (7 * k)) (hz0 : 0 ≤ z) (hz1 : z < 256) (h9 : k = 9 → z ≤ 1) :
    IntKind.u64.wrap (U + IntKind.u64.wrap (z % 128 * B)) = U + z % 128 * 2 ^ (7 * k) := by
  rw [hB.out]
  have h5 := or_top U z k hk hU1 hz0 h9
  have h6 : 0 ≤ z % 128 * 2 ^ (7 * k) := Int.mul_nonneg (by omega) (Int.le_of_lt (Int.pow_pos (by omega)))
  have h7 := pow_split k hk
  generalize z % 128 * 2 ^ (7 * k) = y at *
  rw [IntKind.wrap_u64, IntKind.wrap_u64]
  omega
theorem by_step (B : Int) (k : Nat) (hB : Hid (B = 2 ^ (7 * k))) (hk : k ≤ 8) : IntKind.u64.wrap (B * 128) = 2 ^ (7 * (k + 1)) := by
  have e : (2 : Int) ^ (7 * (k + 1)) = 2 ^ (7 * k) * 128 := by rw [show 7 * (k + 1) = 7 * k + 7 from by omega, Int.pow_add]; rfl
  have h1 := pow_split (k + 1) (by omega)
  have h2 : (0 : Int) < 2 ^ (7 * k) := Int.pow_pos (by omega)
  rw [hB.out, ← e, IntKind.wrap_u64]
  rw [e] at h1 ⊢
  omega

theorem numof_any (v : Value) (n : Nat) (l : List Int) (w : World) (hv : Sl w 1 v n (l.map (Value.int .u8))) (hl : ∀ z ∈ l, (Lit.int .u8 z).wf = true) :
    Calls Tryd.prog 34 #[v] w fun e w' => e = ret3 (takeS 0 0 l) ∧ w = w' := by
  obtain ⟨ao, c, rfl, hn, hc, hlen⟩ := hv.shape
  go_enter Tryd.func34, Tryd.ntmps34
  go_wp2_with fail
  go_loop [5, 6, 10] (fun x y i => ∃ (k : Nat) (U B : Int), k ≤ n ∧ k ≤ 9 ∧ i = .int .i64 k ∧ x = .int .u64 U ∧ y = .int .u64 B ∧ 0 ≤ U ∧ U < 2 ^ (7 * k) ∧ Hid (B = 2 ^ (7 * k)) ∧ Hid (takeS U k (l.drop k) = takeS 0 0 l)) (fun _ _ i => n - (intOf i).toNat)
  case atStart => exact ⟨0, 0, 1, by omega, by omega, rfl, rfl, rfl, by omega, by decide, rfl, rfl⟩
  case round =>
    obtain ⟨k, U, B, hk, hk9, rfl, rfl, rfl, hU0, hU1, hB, hs⟩ := hrel
    by_cases hlt : k < n
    · obtain ⟨b, off, z, rfl, hcell, hz0, hz1, HZ⟩ := hv.byte hl hlt
      have hcons : l.drop k = z :: l.drop (k + 1) := by
        have : k < l.length := by simp at hlen; omega
        rw [List.drop_eq_getElem_cons this]
        have := HZ.out
        rw [List.getD_eq_getElem?_getD, List.getElem?_eq_getElem (by simp at hlen; omega)] at this
        rw [show l[k] = z from by simpa using this]
      have HC := Lib.hid hcons
      clear hcons
      by_cases h9 : k = 9
      · subst h9
        by_cases hz : 1 < z
        · go_wp2
          go_ret3
          refine ⟨?_, rfl⟩
          rw [← hs.out, HC.out]
          simp [takeS, hz, ret3]
        · by_cases hz0' : z = 0
          · subst hz0'
            go_wp2
            go_ret3
            refine ⟨?_, rfl⟩
            rw [← hs.out, HC.out]
            simp [takeS, ret3]
          · have hz1' : (z == 0) = false := by simp [hz0']
            go_wp2
            go_ret3
            exact ⟨ret3_mk (plus_step U z B 9 hB (by omega) hU0 hU1 hz0 hz1 (by omega)) rfl rfl (take_end U z 9 l hs HC (by omega) (by omega)), rfl⟩
      · have h9' : ((k : Int) == 9) = false := by simp; omega
        by_cases hk0 : 0 < k
        · by_cases hz0' : z = 0
          · subst hz0'
            go_wp2
            go_ret3
            refine ⟨?_, rfl⟩
            rw [← hs.out, HC.out]
            simp [takeS, ret3, hk0]
          · have hz1' : (z == 0) = false := by simp [hz0']
            by_cases hz8 : z < 128
            · go_wp2
              go_ret3
              exact ⟨ret3_mk (plus_step U z B k hB (by omega) hU0 hU1 hz0 hz1 (by omega)) rfl rfl (take_end U z k l hs HC (by omega) (by omega)), rfl⟩
            · go_wp2
              go_round
              case rel => exact ⟨k + 1, _, _, by omega, by omega, by go_num, rfl, rfl, by rw [plus_step U z B k hB hk9 hU0 hU1 hz0 hz1 (by omega)]; exact or_lo U z k hU0 hz0, by rw [plus_step U z B k hB hk9 hU0 hU1 hz0 hz1 (by omega)]; exact or_hi U z k hU1 hz0, by_step B k hB (by omega), by rw [plus_step U z B k hB hk9 hU0 hU1 hz0 hz1 (by omega)]; exact take_more U z k l hs HC (by omega) (by omega)⟩
              case measure => simp [intOf]; omega
        · obtain rfl : k = 0 := by omega
          have hcell0 : w.cell? ⟨b, off, none⟩ = some (.int .u8 z) := by simpa using hcell
          by_cases hz8 : z < 128
          · go_wp2
            go_ret3
            exact ⟨ret3_mk (plus_step U z B 0 hB (by omega) hU0 hU1 hz0 hz1 (by omega)) rfl rfl (take_end U z 0 l hs HC (by omega) (by omega)), rfl⟩
          · go_wp2
            go_round
            case rel => exact ⟨1, _, _, by omega, by omega, rfl, rfl, rfl, by rw [plus_step U z B 0 hB (by omega) hU0 hU1 hz0 hz1 (by omega)]; exact or_lo U z 0 hU0 hz0, by rw [plus_step U z B 0 hB (by omega) hU0 hU1 hz0 hz1 (by omega)]; exact or_hi U z 0 hU1 hz0, by_step B 0 hB (by omega), by rw [plus_step U z B 0 hB (by omega) hU0 hU1 hz0 hz1 (by omega)]; exact take_more U z 0 l hs HC (by omega) (by omega)⟩
            case measure => simp [intOf]; omega
    · obtain rfl : k = n := by omega
      have hnil : l.drop k = [] := List.drop_eq_nil_of_le (by simp at hlen; omega)
      have HN := Lib.hid hnil
      clear hnil
      go_wp2
      go_ret3
      refine ⟨?_, rfl⟩
      rw [← hs.out, HN.out]
      rfl
end Go.Proofs.YtbifhmbfmoeofaaDoor.Bits
/-
  The walks of bits.Put and of the reference to it, and of bytes.Equal.
-/
namespace Go.Proofs.YtbifhmbfmoeofaaDoor.Bits
open Go.RowKit Go.Gh Go.WideShapes
set_option linter.unusedVariables false

def putI : Nat → Int → List Int
  | 0, u => [u]
  | f + 1, u => if u < 128 then [u] else (u % 128 + 128) :: putI f (u / 128)
theorem putI_wf : ∀ (f : Nat) (u : Int), 0 ≤ u → u < 128 ^ (f + 1) → ∀ z ∈ putI f u, (Lit.int .u8 z).wf = true
  | 0, u, h0, h1, z, hz => by
    simp [putI] at hz
    subst hz
    simp [Lit.wf, IntKind.min, IntKind.max, IntKind.signed, IntKind.bits] at *
    omega
  | f + 1, u, h0, h1, z, hz => by
    simp only [putI] at hz
    split at hz
    · simp at hz
      subst hz
      simp [Lit.wf, IntKind.min, IntKind.max, IntKind.signed, IntKind.bits] at *
      omega
    · simp at hz
      rcases hz with rfl | hz
      · simp [Lit.wf, IntKind.min, IntKind.max, IntKind.signed, IntKind.bits]
        omega
      · refine putI_wf f (u / 128) (by omega) ?_ z hz
        rw [Int.pow_succ] at h1
        exact Int.ediv_lt_of_lt_mul (by omega) h1
theorem putI_len : ∀ (f : Nat) (u : Int), 0 < (putI f u).length ∧ (putI f u).length ≤ f + 1
  | 0, u => by simp [putI]
  | f + 1, u => by
    have := putI_len f (u / 128)
    simp only [putI]
    split <;> simp <;> omega
theorem or128 (u : Int) : bits .or .u8 (IntKind.u8.wrap u) 128 = u % 128 + 128 := by
  rw [IntKind.wrap_u8', u8_or _ _ (by omega) (by omega) (by decide) (by decide)]
  obtain ⟨n, hn⟩ := Int.eq_ofNat_of_zero_le (show 0 ≤ u % 256 by omega)
  rw [hn, Int.toNat_natCast, show (128 : Int).toNat = 2 ^ 7 from rfl]
  have e : n ||| 2 ^ 7 = 2 ^ 7 ||| (n % 2 ^ 7) := by
    apply Nat.eq_of_testBit_eq
    intro i
    simp only [Nat.testBit_or, Nat.testBit_two_pow, Nat.testBit_mod_two_pow]
    have hlt : n < 2 ^ 8 := by omega
    by_cases h7 : i = 7
    · subst h7; simp
    · by_cases h8 : i < 7
      · simp [h8, Bool.or_comm]
      · have : n.testBit i = false := Nat.testBit_lt_two_pow (Nat.lt_of_lt_of_le hlt (Nat.pow_le_pow_right (by omega) (by omega)))
        simp [this]
  rw [e, nat_join 7 _ _ (by decide) (Nat.mod_lt _ (by decide))]
  omega

theorem put_step (U u : Int) (k : Nat) (acc : List Int) (hk : k < 9) (h : Hid (acc ++ putI (9 - k) U = putI 9 u)) (h128 : 128 ≤ U) : Hid ((acc ++ [U % 128 + 128]) ++ putI (9 - (k + 1)) (U / 128) = putI 9 u) := by
  show _ = _
  rw [← h.out, List.append_assoc]
  congr 1
  rw [show 9 - k = (9 - (k + 1)) + 1 from by omega, putI, if_neg (by omega)]
  rfl
theorem put_end (U u : Int) (k : Nat) (acc : List Int) (hk : k ≤ 9) (h : Hid (acc ++ putI (9 - k) U = putI 9 u)) (h128 : U < 128) : acc ++ [U] = putI 9 u := by
  rw [← h.out]
  congr 1
  by_cases hk9 : k = 9
  · subst hk9; rfl
  · rw [show 9 - k = (9 - (k + 1)) + 1 from by omega, putI, if_pos (by omega)]

theorem or128' (u : Int) : bits .or .u8 (u % 256) 128 = u % 128 + 128 := by rw [← IntKind.wrap_u8']; exact or128 u
theorem put_bd (U : Int) (k : Nat) (hk : k < 9) (h : U < 128 ^ (9 - k) * 2) : U / 128 < 128 ^ (9 - (k + 1)) * 2 := by
  rw [show 9 - k = (9 - (k + 1)) + 1 from by omega, Int.pow_succ] at h
  exact Int.ediv_lt_of_lt_mul (by omega) (by omega)
theorem lt_fuel {u : Int} (h : u < 18446744073709551616) : u < 128 ^ (9 + 1) := by
  rw [show (128 : Int) ^ (9 + 1) = 1180591620717411303424 from by decide]
  omega
theorem put_any (u : Int) (h0 : 0 ≤ u) (h1 : u < 18446744073709551616) (w : World) :
    Calls Tryd.prog 31 #[.int .u64 u] w fun e w' => ∃ v, e = .returned v ∧ w'.ownsRow w.heap.size 5 1 v (putI 9 u).length ((putI 9 u).map (Value.int .u8)) ∧ Below w.heap.size w w' := by
  go_enter Tryd.func31, Tryd.ntmps31
  go_wp2_with fail
  go_loopw [0, 3] (fun x v wr => ∃ (k : Nat) (U : Int) (acc : List Int), x = .int .u64 U ∧ k ≤ 9 ∧ 0 ≤ U ∧ U < 128 ^ (9 - k) * 2 ∧ Hid (acc.length = k) ∧ wr.ownsRow w.heap.size 5 1 v acc.length (acc.map (Value.int .u8)) ∧ Below w.heap.size w wr ∧ Hid (acc ++ putI (9 - k) U = putI 9 u))
    (fun x _ _ => (intOf x).toNat)
  case atStart => exact ⟨0, u, [], rfl, by omega, h0, h1, rfl, World.ownsRow_nil _ _ _ _, Below.refl _ _, rfl⟩
  case round =>
    obtain ⟨k, U, acc, rfl, hk, hU0, hU1, hacc, hown, hbel, hs⟩ := hrel
    have hsz := hbel.size
    by_cases h128 : 128 ≤ U
    · have hk9 : k < 9 := by
        rcases Nat.lt_or_ge k 9 with h | h
        · exact h
        · obtain rfl : k = 9 := by omega
          simp at hU1; omega
      have hla : acc.length ≤ 9 := by have := hacc.out; omega
      go_wp2_with (at_builtin; refine append1 [_] elU8 rfl _ _ rfl hown hbel hsz rfl rfl rfl (one_all _ rfl) ?c4 ?c5 ?_)
      case c4 => omega
      case c5 => omega
      intro v' w1 hown' hbel' _
      have HS := put_step U u k acc hk9 hs h128
      clear hown hbel hs
      go_wp2
      go_roundw
      case rel => exact ⟨k + 1, U / 128, acc ++ [U % 128 + 128], rfl, by omega, by omega, put_bd U k hk9 hU1, by show _ = _; simp [hacc.out], by simpa [or128'] using hown', hbel', HS⟩
      case measure => simp [intOf]; omega
    · have hla : acc.length ≤ 9 := by have := hacc.out; omega
      go_wp2_with (at_builtin; refine append1 [_] elU8 rfl _ _ rfl hown hbel hsz rfl rfl rfl (one_all _ rfl) ?c4 ?c5 ?_)
      case c4 => omega
      case c5 => omega
      intro v' w1 hown' hbel' _
      have HE := Lib.hid (put_end U u k acc hk hs (by omega))
      clear hown hbel hs
      go_wp2
      go_ret
      refine ⟨v', rfl, ?_, hbel'⟩
      rw [← HE.out]
      have e1 : IntKind.u8.wrap U = U := by rw [IntKind.wrap_u8']; omega
      simpa [e1] using hown'

theorem putI_big (f : Nat) (u : Int) (h : 128 ≤ u) : putI (f + 1) u = (u % 128 + 128) :: putI f (u / 128) := by
  rw [putI, if_neg (by omega)]
theorem putI_small (f : Nat) (u : Int) (h : u < 128) : putI f u = [u] := by
  cases f with
  | zero => rfl
  | succ f => rw [putI, if_pos h]
theorem bytesof_any : ∀ (f : Nat) (u : Int) (h0 : 0 ≤ u) (h1 : u < 18446744073709551616) (hf : f ≤ 9) (h2 : u < 128 ^ (f + 1)) (w : World),
    Calls Tryd.prog 32 #[.int .u64 u] w fun e w' => ∃ v, e = .returned v ∧ w'.ownsRow w.heap.size 5 1 v (putI f u).length ((putI f u).map (Value.int .u8)) ∧ Below w.heap.size w w' := by
  intro f
  induction f with
  | zero =>
    intro u h0 h1 hf h2 w
    have h128 : u < 128 := by simpa using h2
    go_enter Tryd.func32, Tryd.ntmps32
    go_wp2_with fail
    go_ret
    rw [putI_small _ _ h128]
    exact ⟨_, rfl, own_build w [_] (Nat.le_refl _) rfl (by decide), (Below.refl _ _).alloc (Nat.le_refl _) _⟩
  | succ f ih =>
    intro u h0 h1 hf h2 w
    have HI := Lib.hid ih
    clear ih
    by_cases h128 : u < 128
    · go_enter Tryd.func32, Tryd.ntmps32
      go_wp2_with fail
      go_ret
      rw [putI_small _ _ h128]
      exact ⟨_, rfl, own_build w [_] (Nat.le_refl _) rfl (by decide), (Below.refl _ _).alloc (Nat.le_refl _) _⟩
    · have hq : u / 128 < 128 ^ (f + 1) := by
        rw [Int.pow_succ] at h2
        exact Int.ediv_lt_of_lt_mul (by omega) h2
      have HQ := Lib.hid hq
      clear hq h2
      have hl := putI_len f (u / 128)
      have hu8 : 0 ≤ u % 128 := by omega
      have hu9 : u % 128 < 128 := by omega
      have hu10 : 0 ≤ u % 128 + 128 := by omega
      go_enter Tryd.func32, Tryd.ntmps32
      go_wp2_with fail
      refine (HI.out (u / 128) (by omega) (by omega) (by omega) HQ.out _).mono ?_
      rintro e w' ⟨v, rfl, hown, hbel⟩
      obtain ⟨g, cap, rfl, hg1, hg2, hc1, hc2, hcells⟩ := own_some hown hl.1
      have ho1 : (w.alloc (.cells [Value.int .u8 (u % 128 + 128)].toArray 5)).ownsRow w.heap.size 5 1 (.slice (some ⟨w.heap.size, 0, none⟩) 1 1) 1 [Value.int .u8 (u % 128 + 128)] := own_build w _ (Nat.le_refl _) rfl (by decide)
      have ho2 := own_below ho1 hbel
      have hb2 : Below w.heap.size w w' := ((Below.refl _ _).alloc (Nat.le_refl _) _).trans (hbel.mono (by simp))
      have hsz := hb2.size
      have HP := Lib.hid (putI_big f u (by omega))
      clear HI HQ
      generalize hd : putI f (u / 128) = d at *
      clear hd ho1 hown
      go_wp2_with (at_builtin; refine appendN elU8 rfl _ _ rfl ho2 hb2 hsz rfl rfl (by rw [List.length_map, Nat.mul_one]) (by simpa using hcells) (ints_one _ _) ?c4 ?c5 ?_)
      case c4 => omega
      case c5 => omega
      intro v' w1 hown' hbel' _
      go_wp2
      go_ret
      refine ⟨v', rfl, ?_, hbel'⟩
      rw [HP.out, List.length_cons, Nat.add_comm]
      exact hown'

theorem equal_any (v v' : Value) (n n' : Nat) (l l' : List Int) (w : World) (hv : Sl w 1 v n (l.map (Value.int .u8))) (hv' : Sl w 1 v' n' (l'.map (Value.int .u8))) (hl : ∀ z ∈ l, (Lit.int .u8 z).wf = true) (hl' : ∀ z ∈ l', (Lit.int .u8 z).wf = true) :
    Calls Tryd.prog 12 #[v, v'] w fun e w' => e = .returned (.bool (decide (l = l'))) ∧ w = w' := by
  have c1 := run_bytes (dst := 9) Tryd.underlying23 Tryd.underlying5 Tryd.underlying9 hv
  have c2 := run_bytes (dst := 9) Tryd.underlying23 Tryd.underlying5 Tryd.underlying9 hv'
  have HI := Lib.hid (bstr_inj hl hl')
  have HI2 : Hid (l = l' → bstr l = bstr l') := fun h => by rw [h]
  generalize bstr l = s at *
  generalize bstr l' = s' at *
  go_enter Tryd.func12, Tryd.ntmps12
  go_wp2_with fail
  go_ret
  refine ⟨ret_bool ?_, rfl⟩
  rw [ByteArray.toList_eq, ByteArray.toList_eq]
  by_cases h : l = l'
  · rw [HI2.out h]; simp [h]
  · have h2 : s.data.toList ≠ s'.data.toList := fun h' => h (HI.out (bytes_inj h'))
    rw [beq_eq_false_iff_ne.2 h2, decide_eq_false h]
end Go.Proofs.YtbifhmbfmoeofaaDoor.Bits
/-
  What one does with a value of api.Bits: it is owned, it lies below, it is zero.
-/
namespace Go.Proofs.YtbifhmbfmoeofaaDoor.Bits
open Go.RowKit Go.Gh Go.WideShapes
set_option linter.unusedVariables false

theorem sameB_one (L : List Int) (N : Int) : sameB L L N N = true := decide_eq_true ⟨rfl, rfl⟩
theorem u8_of_bytes {l : List Int} (h : Bytes l) : ∀ z ∈ l, (Lit.int .u8 z).wf = true := by
  intro z hz
  have := h z hz
  simp [Lit.wf, IntKind.min, IntKind.max, IntKind.signed, IntKind.bits]
  omega
theorem bv_own {w : World} {B : Nat} {b : Value} {L : List Int} {N : Int} (h : w.ownsRow B 5 1 b L.length (L.map (Value.int .u8))) (hL : Bytes L) (hl : L.length ≤ 140737488355328) (hN0 : -9223372036854775808 ≤ N) (hN1 : N ≤ 9223372036854775807) : BitsV w (.agg #[b, .int .i64 N]) L N :=
  ⟨b, _, rfl, own_sl h, hL, u8_of_bytes hL, hl, hN0, hN1⟩
theorem bv_below {w w' : World} {v : Value} {L : List Int} {N : Int} (h : BitsV w v L N) (hb : Below w.heap.size w w') : BitsV w' v L N := by
  obtain ⟨b, n, h1, h2, h3⟩ := h
  exact ⟨b, n, h1, h2.below hb, h3⟩
theorem bv_zero (w : World) : BitsV w (.agg #[.slice none 0 0, .int .i64 0]) [] 0 :=
  ⟨_, 0, rfl, ⟨none, 0, rfl, Nat.le_refl _, Nat.zero_le _, fun _ => rfl, rfl, fun h => absurd h (Nat.lt_irrefl _)⟩, by intro z hz; simp at hz, by intro z hz; simp at hz, by decide, by decide, by decide⟩
end Go.Proofs.YtbifhmbfmoeofaaDoor.Bits
/-
  Lists of cells: of a list of things that have so many cells each.
-/
namespace Go.Gh
theorem flat_len {α β : Type} (f : α → List β) (size : Nat) (hf : ∀ a, (f a).length = size) (l : List α) : (l.flatMap f).length = l.length * size := by
  induction l with
  | nil => simp
  | cons a l ih => rw [List.flatMap_cons, List.length_append, hf, ih, List.length_cons, Nat.succ_mul, Nat.add_comm]
theorem flat_get {α β : Type} (f : α → List β) (size : Nat) (hf : ∀ a, (f a).length = size) (l : List α) (i j : Nat) (hi : i < l.length) (hj : j < size) :
    (l.flatMap f)[i * size + j]? = (f l[i])[j]? := by
  induction l generalizing i with
  | nil => simp at hi
  | cons a l ih =>
    rw [List.flatMap_cons]
    cases i with
    | zero => rw [Nat.zero_mul, Nat.zero_add, List.getElem?_append_left (by rw [hf]; exact hj)]; rfl
    | succ i =>
      rw [Nat.succ_mul, List.getElem?_append_right (by rw [hf]; omega), hf, show i * size + size + j - size = i * size + j from by omega]
      exact ih i (by simpa using hi)
theorem flat_take {α β : Type} (f : α → List β) (size : Nat) (hf : ∀ a, (f a).length = size) (l : List α) (n : Nat) (h : n ≤ l.length) : (l.take n).flatMap f = (l.flatMap f).take (n * size) := by
  induction l generalizing n with
  | nil => simp
  | cons a l ih =>
    cases n with
    | zero => simp
    | succ n =>
      rw [List.take_succ_cons, List.flatMap_cons, List.flatMap_cons, ih n (by simpa using h), Nat.succ_mul, Nat.add_comm, List.take_append, hf, List.take_of_length_le (l := f a) (by rw [hf]; omega), show size + n * size - size = n * size from by omega]
end Go.Gh
/-
  Slices of structs whose fields are all int64: how they read, and arguments opened.
-/
namespace Go.Gh
open Go.RowKit Go.ChangeShapes Go.WideShapes Go.ChangeAt Go.Deep
set_option linter.unusedVariables false

/-- The cells of rows of numbers. -/
def rowCells (l : List (List Int)) : List Value := l.flatMap fun r => r.map (Value.int .i64)
def Rows64 (k : Nat) (l : List (List Int)) : Prop := ∀ r ∈ l, r.length = k ∧ ∀ z ∈ r, (Lit.int .i64 z).wf = true

theorem rowCells_len (k : Nat) (l : List (List Int)) (h : ∀ r ∈ l, r.length = k) : (rowCells l).length = l.length * k := by
  unfold rowCells
  induction l with
  | nil => simp
  | cons a l ih => rw [List.flatMap_cons, List.length_append, List.length_map, h a (by simp), ih (fun r hr => h r (by simp [hr])), List.length_cons, Nat.succ_mul, Nat.add_comm]
theorem rowCells_get (k : Nat) (l : List (List Int)) (h : ∀ r ∈ l, r.length = k) (i j : Nat) (hi : i < l.length) (hj : j < k) : (rowCells l)[i * k + j]? = (l[i].map (Value.int .i64))[j]? := by
  unfold rowCells
  induction l generalizing i with
  | nil => simp at hi
  | cons a l ih =>
    have ha := h a (by simp)
    rw [List.flatMap_cons]
    cases i with
    | zero => rw [Nat.zero_mul, Nat.zero_add, List.getElem?_append_left (by rw [List.length_map, ha]; exact hj)]; rfl
    | succ i =>
      rw [Nat.succ_mul, List.getElem?_append_right (by rw [List.length_map, ha]; omega), List.length_map, ha, show i * k + k + j - k = i * k + j from by omega]
      exact ih (fun r hr => h r (by simp [hr])) i (by simpa using hi)
section
variable {H : Type} {enc : TypeId × Value → H} {P : Program} {W : World} {base : Nat} {spare : Nat → Bool} {held : Bool}
theorem sl_structs {t e : TypeId} {fs : Array Field} {fuel : Nat} {v : Value} {x : DataW H × List MemPlace} (ht : P.underlying t = some (.slice e)) (he : P.underlying e = some (.struct fs))
    (hi : ∀ (j : Nat) (f : Field), fs[j]? = some f → P.underlying f.type = some (.int .i64)) (hone : oneCellFields P fs = true) (hpos : 0 < fs.size) (hC : P.cellsOf e = fs.size)
    (h : DataW.trod enc P W base spare held fuel t [v] = some x) (hs : ∀ n ∈ x.1.weights P t, n ≤ reachBytes) :
    ∃ (n : Nat) (l : List (List Int)), Sl W fs.size v n (rowCells l) ∧ l.length = n ∧ Rows64 fs.size l ∧ n * P.bytesOf e ≤ reachBytes := by
  rcases open_slice ht h with ⟨hcs, _⟩ | ⟨a, len, cap, m, n, D, Pl, hcs, hb, hl, hm, hmm, hx, hi'⟩
  · obtain rfl : v = .slice none 0 0 := by simpa using hcs
    exact ⟨0, [], ⟨none, 0, rfl, Nat.le_refl _, Nat.zero_le _, fun _ => rfl, by simp [rowCells], fun h => absurd h (Nat.lt_irrefl _)⟩, rfl, by intro r hr; simp at hr, by simp⟩
  · obtain rfl : v = .slice (some a) len cap := by simpa using hcs
    have hlm : len ≤ m := by rw [hmm]; split <;> omega
    have each : ∀ i, i < len → ∃ r : List Int, (r.length = fs.size ∧ ∀ z ∈ r, (Lit.int .i64 z).wf = true) ∧ ∀ j u, (r.map (Value.int .i64))[j]? = some u → W.cell? (a.add (i * fs.size + j)) = some u := by
      intro i hlt
      obtain ⟨cs', hc, ht'⟩ := hi' i (by omega)
      rw [hC] at hc
      obtain ⟨xs, n', _, _, hlen, hxl, hf⟩ := DataW.trod_struct he ht'
      obtain ⟨_, hcl, hat⟩ := World.cells?_some hc
      have hz : ∀ j, j < fs.size → ∃ z : Int, cs'[j]? = some (.int .i64 z) ∧ (Lit.int .i64 z).wf = true := by
        intro j hj
        have hfj : fs[j]? = some fs[j] := Array.getElem?_eq_getElem hj
        obtain ⟨ho, hk⟩ := hone_of hone j _ hfj
        have h1 := hf j _ hfj
        have hjc : j < cs'.length := by rw [hcl]; exact hj
        rw [ho, hk, take1_drop cs' j undef hjc, List.getElem?_eq_getElem (show j < xs.length by rw [hxl]; exact hj)] at h1
        obtain ⟨z, hzz, _, hw⟩ := DataW.trod_int (hi j _ hfj) h1
        refine ⟨z, ?_, hw⟩
        rw [List.getElem?_eq_getElem hjc]
        have : cs'.getD j undef = .int .i64 z := by simpa using hzz
        rw [List.getD_eq_getElem?_getD, List.getElem?_eq_getElem hjc] at this
        simpa using this
      obtain ⟨Z, hZ⟩ := choose_lt hz
      refine ⟨(List.range fs.size).map Z, ⟨by simp, ?_⟩, ?_⟩
      · intro z hz'
        simp at hz'
        obtain ⟨j, hj, rfl⟩ := hz'
        exact (hZ j hj).2
      · intro j u hu
        have hj : j < fs.size := by
          rcases Nat.lt_or_ge j fs.size with h' | h'
          · exact h'
          · rw [List.getElem?_eq_none (by simp; exact h')] at hu; simp at hu
        simp [hj] at hu
        subst hu
        have h2 := hat j hj
        rw [add_add, (hZ j hj).1] at h2
        exact h2
    obtain ⟨R, hR⟩ := choose_lt each
    have hlen : ((List.range len).map R).length = len := by simp
    have hsz : ∀ r ∈ (List.range len).map R, r.length = fs.size := by
      intro r hr
      simp at hr
      obtain ⟨i, hi, rfl⟩ := hr
      exact (hR i hi).1.1
    refine ⟨len, (List.range len).map R, ⟨some a, cap, rfl, hl, hm, fun h => by simp at h, ?_, fun hn => ?_⟩, hlen, ?_, ?_⟩
    · rw [rowCells_len fs.size _ hsz, hlen]
    · have h0 := (hR 0 hn).2 0 (.int .i64 ((R 0).getD 0 0)) (by
        have : 0 < (R 0).length := by rw [(hR 0 hn).1.1]; exact hpos
        simp [this])
      obtain ⟨b, off, spot⟩ := a
      have hs := World.cell?_spot h0
      simp [Addr.add] at hs
      subst hs
      refine ⟨b, off, rfl, fun i u hu => ?_⟩
      have hidx : i < len * fs.size := by
        rcases Nat.lt_or_ge i (len * fs.size) with h' | h'
        · exact h'
        · rw [List.getElem?_eq_none (by rw [rowCells_len fs.size _ hsz, hlen]; exact h')] at hu; simp at hu
      have hq : i / fs.size < len := Nat.div_lt_of_lt_mul (by rw [Nat.mul_comm]; exact hidx)
      have hr : i % fs.size < fs.size := Nat.mod_lt _ hpos
      have hdm : i / fs.size * fs.size + i % fs.size = i := by rw [Nat.mul_comm]; exact Nat.div_add_mod i fs.size
      rw [← hdm, rowCells_get fs.size _ hsz (i / fs.size) (i % fs.size) (by rw [hlen]; exact hq) hr] at hu
      have := (hR (i / fs.size) hq).2 (i % fs.size) u (by simpa using hu)
      rw [addr_add, hdm] at this
      exact this
    · intro r hr
      simp at hr
      obtain ⟨i, hi, rfl⟩ := hr
      exact (hR i hi).1
    · have := hs ((((List.range len).map D).length + ((List.range (m - len)).map fun j => D (len + j)).length) * P.bytesOf e) (by rw [hx]; simp [DataW.weights, ht])
      refine Nat.le_trans (Nat.mul_le_mul_right _ ?_) this
      simp
end

/-- A slice of structs of k fields, all int64, that came in. -/
def IsRows (k : Nat) (w : World) (v : Value) : Prop := ∃ (n : Nat) (l : List (List Int)), Sl w k v n (rowCells l) ∧ l.length = n ∧ Rows64 k l ∧ n ≤ 140737488355328
def all64 (P : Program) (fs : Array Field) : Bool := (List.range fs.size).all fun j => match fs[j]? with
  | some f => match P.underlying f.type with
    | some (.int .i64) => true
    | _ => false
  | none => false
theorem all64_of {P : Program} {fs : Array Field} (h : all64 P fs = true) : ∀ (j : Nat) (f : Field), fs[j]? = some f → P.underlying f.type = some (.int .i64) := by
  intro j f hj
  have hlt : j < fs.size := (Array.getElem?_eq_some_iff.1 hj).1
  have := List.all_eq_true.1 h j (List.mem_range.2 hlt)
  rw [hj] at this
  simp only at this
  split at this
  · assumption
  · simp at this
section
variable {H : Type} {enc : TypeId × Value → H} {P : Program} {W : World} {base b0 : Nat} {r : Reach} {spare : Nat → Bool} {held : Bool} {t e : TypeId} {v : Value} {d : DataW H} {ps : List MemPlace}
theorem isRows_of {fs : Array Field} (ht : P.underlying t = some (.slice e)) (he : P.underlying e = some (.struct fs)) (h64 : all64 P fs = true) (hone : oneCellFields P fs = true) (hpos : 0 < fs.size) (hC : P.cellsOf e = fs.size) (hb : 0 < P.bytesOf e)
    (hv : Value.okWide P W r b0 t v) (hd : DataW.Trod enc P W base spare held t v d ps) (hs : ∀ n ∈ d.weights P t, n ≤ reachBytes) : IsRows fs.size W v := by
  obtain ⟨a, l, c, rfl⟩ := okWide_slice ht hv
  obtain ⟨fuel, hf⟩ := hd
  obtain ⟨n, l, h1, h2, h3, h4⟩ := sl_structs ht he (all64_of h64) hone hpos hC (by simpa [Value.cells] using hf) hs
  exact ⟨n, l, h1, h2, h3, reach_le h4 hb⟩
end
/-- An element: where it lies, and its fields' cells. -/
theorem Sl.row {w : World} {ao : Option Addr} {n c k : Nat} {l : List (List Int)} (h : Sl w k (.slice ao n c) n (rowCells l)) (hl : l.length = n) (hr : Rows64 k l) {i : Nat} (hi : i < n) :
    ∃ b off, ao = some ⟨b, off, none⟩ ∧ (l.getD i []).length = k ∧ (∀ z ∈ l.getD i [], (Lit.int .i64 z).wf = true) ∧ ∀ j, j < k → w.cell? ⟨b, off + i * k + j, none⟩ = some (.int .i64 ((l.getD i []).getD j 0)) := by
  obtain ⟨ao', cap, h1, h2, h3, h4, h5, h6⟩ := h
  simp at h1
  obtain ⟨rfl, rfl⟩ := h1
  obtain ⟨b, off, rfl, hc⟩ := h6 (by omega)
  have hil : i < l.length := by omega
  have hg : l.getD i [] = l[i] := by rw [List.getD_eq_getElem?_getD, List.getElem?_eq_getElem hil]; rfl
  rw [hg]
  have hri := hr l[i] (List.getElem_mem _)
  refine ⟨b, off, rfl, hri.1, hri.2, fun j hj => ?_⟩
  have := rowCells_get k l (fun r hr' => (hr r hr').1) i j hil hj
  rw [Nat.add_assoc]
  refine hc _ _ ?_
  rw [this]
  have hj' : j < l[i].length := by rw [hri.1]; exact hj
  simp [hj']
end Go.Gh
/-
  The walks of SamplesFault and chunk.Check: are samples in the order of their times?
-/
namespace Go.Proofs.YtbifhmbfmoeofaaDoor.Smp
open Go.RowKit Go.Gh
set_option linter.unusedVariables false

/-- Field j of row i. -/
def fld (l : List (List Int)) (i j : Nat) : Int := (l.getD i []).getD j 0
def Ordered (l : List (List Int)) : Prop := ∀ i, i + 1 < l.length → fld l i 0 < fld l (i + 1) 0
open Classical in
noncomputable def sampF (l : List (List Int)) : Int := if 1000 < l.length then 2 else if Ordered l then 0 else 5

theorem samplesfault_any (v : Value) (n : Nat) (l : List (List Int)) (w : World) (hs : Sl w 2 v n (rowCells l)) (hl : l.length = n) (hr : Rows64 2 l) (hn : n ≤ 140737488355328) :
    Calls Tryd.prog 10 #[v] w fun e w' => e = .returned (.int .i64 (sampF l)) ∧ Below w.heap.size w w' := by
  obtain ⟨ao, c, rfl, hnc, hc, _⟩ := hs.shape
  have HL := Lib.hid hl
  by_cases hbig : 1000 < n
  · have HF : Hid (sampF l = 2) := if_pos (by omega)
    clear hl
    go_enter Tryd.func10, Tryd.ntmps10
    go_wp2_with fail
    go_ret
    exact ⟨ret_int HF.out.symm, Below.refl _ _⟩
  · clear hl
    go_enter Tryd.func10, Tryd.ntmps10
    go_wp2_with fail
    go_loopw [2, 9] (fun r i wr => ∃ k : Nat, k ≤ n ∧ i = .int .i64 k ∧ r = .int .i64 0 ∧ Below w.heap.size w wr ∧ Hid (∀ i, i + 1 < k → fld l i 0 < fld l (i + 1) 0)) (fun _ i _ => n - (intOf i).toNat)
    case atStart => exact ⟨0, by omega, rfl, rfl, Below.refl _ _, fun i hi => by omega⟩
    case round =>
      obtain ⟨k, hk, rfl, rfl, hbr, hord⟩ := hrel
      by_cases hlt : k < n
      · obtain ⟨b, off, rfl, hk1, hk2, hck⟩ := (hs.below hbr).row HL.out hr hlt
        have c1 := hck 0 (by decide)
        rw [Nat.add_zero] at c1
        clear hck
        by_cases h0 : k = 0
        · subst h0
          go_wp2_with fail
          go_quiet (fail)
          go_wp2
          go_roundw
          case rel => exact ⟨1, by omega, rfl, rfl, below_drewN hbr _, fun i hi => by omega⟩
          case measure => simp [intOf]; omega
        · obtain ⟨j, rfl⟩ : ∃ j, k = j + 1 := ⟨k - 1, by omega⟩
          obtain ⟨b', off', hbo, hj1, hj2, hcj⟩ := (hs.below hbr).row HL.out hr (show j < n by omega)
          simp only [Option.some.injEq, Addr.mk.injEq, and_true] at hbo
          obtain ⟨rfl, rfl⟩ := hbo
          have c0 := hcj 0 (by decide)
          rw [Nat.add_zero] at c0
          clear hcj
          have hA : fld l j 0 = (l.getD j []).getD 0 0 := rfl
          have hB : fld l (j + 1) 0 = (l.getD (j + 1) []).getD 0 0 := rfl
          rw [← hA] at c0
          rw [← hB] at c1
          clear hA hB
          have d0 : decide ((0 : Int) < (j + 1 : Nat)) = true := by simp
          have i1 : ((j + 1 : Nat) : Int) - 1 = (j : Int) := by omega
          generalize hx : fld l j 0 = x at *
          generalize hy : fld l (j + 1) 0 = y at *
          have HX := Lib.hid hx
          have HY := Lib.hid hy
          clear hx hy h0
          by_cases hle : y ≤ x
          · go_wp2_with fail
            go_quiet (fail)
            have HF : Hid (sampF l = 5) := by
              show _ = _
              unfold sampF
              rw [if_neg (by rw [HL.out]; omega), if_neg]
              intro ho
              have := ho j (by rw [HL.out]; omega)
              rw [HX.out, HY.out] at this
              omega
            go_wp2_with fail
            go_ret
            exact ⟨ret_int HF.out.symm, below_drewN hbr _⟩
          · have hlt' : x < y := by omega
            have HN : Hid (∀ i, i + 1 < j + 1 + 1 → fld l i 0 < fld l (i + 1) 0) := by
              intro i hi
              rcases Nat.lt_or_eq_of_le (Nat.le_of_lt_succ hi) with h | h
              · exact hord.out i h
              · obtain rfl : i = j := by omega
                rw [HX.out, HY.out]; exact hlt'
            go_wp2_with fail
            go_quiet (fail)
            go_wp2
            go_roundw
            case rel => exact ⟨j + 1 + 1, by omega, by go_num, rfl, below_drewN hbr _, HN⟩
            case measure => simp [intOf]; omega
      · obtain rfl : k = n := by omega
        have HF : Hid (sampF l = 0) := by
          show _ = _
          unfold sampF
          rw [if_neg (by rw [HL.out]; omega), if_pos]
          intro i hi
          exact hord.out i (by rw [HL.out] at hi; exact hi)
        go_wp2_with fail
        go_ret
        exact ⟨ret_int HF.out.symm, hbr⟩

theorem check_any (v : Value) (n : Nat) (l : List (List Int)) (w : World) (hs : Sl w 2 v n (rowCells l)) (hl : l.length = n) (hr : Rows64 2 l) (hn : n ≤ 140737488355328) :
    Calls Tryd.prog 11 #[v] w fun e w' => e = .returned (.int .i64 (sampF l)) ∧ Below w.heap.size w w' := by
  obtain ⟨ao, c, rfl, hnc, hc, _⟩ := hs.shape
  have HL := Lib.hid hl
  by_cases hbig : 1000 < n
  · have HF : Hid (sampF l = 2) := if_pos (by omega)
    clear hl
    go_enter Tryd.func11, Tryd.ntmps11
    go_wp2_with fail
    go_ret
    exact ⟨ret_int HF.out.symm, Below.refl _ _⟩
  · clear hl
    go_enter Tryd.func11, Tryd.ntmps11
    go_wp2_with fail
    go_loopw [2, 3] (fun r i wr => ∃ k : Nat, k ≤ n ∧ i = .int .i64 (k + 1) ∧ r = .int .i64 0 ∧ Below w.heap.size w wr ∧ Hid (∀ i, i < k → i + 1 < n → fld l i 0 < fld l (i + 1) 0)) (fun _ i _ => n + 1 - (intOf i).toNat)
    case atStart => exact ⟨0, by omega, rfl, rfl, Below.refl _ _, fun i hi => by omega⟩
    case round =>
      obtain ⟨j, hk, rfl, rfl, hbr, hord⟩ := hrel
      by_cases hlt : j + 1 < n
      · obtain ⟨b, off, rfl, hk1, hk2, hck⟩ := (hs.below hbr).row HL.out hr hlt
        have c1 := hck 0 (by decide)
        rw [Nat.add_zero] at c1
        clear hck
        obtain ⟨b', off', hbo, hj1, hj2, hcj⟩ := (hs.below hbr).row HL.out hr (show j < n by omega)
        simp only [Option.some.injEq, Addr.mk.injEq, and_true] at hbo
        obtain ⟨rfl, rfl⟩ := hbo
        have c0 := hcj 0 (by decide)
        rw [Nat.add_zero] at c0
        clear hcj
        have hA : fld l j 0 = (l.getD j []).getD 0 0 := rfl
        have hB : fld l (j + 1) 0 = (l.getD (j + 1) []).getD 0 0 := rfl
        rw [← hA] at c0
        rw [← hB] at c1
        clear hA hB
        generalize hx : fld l j 0 = x at *
        generalize hy : fld l (j + 1) 0 = y at *
        have HX := Lib.hid hx
        have HY := Lib.hid hy
        clear hx hy
        have i1 : IntKind.i64.wrap ((j : Int) + 1 - 1) = (j : Int) := by rw [IntWalk.i64_in _ (by omega)]; omega
        have i2 : ((j : Int) + 1).toNat = j + 1 := by omega
        have i3 : (j : Int) + 1 < n := by omega
        have i4 : 0 ≤ (j : Int) + 1 := by omega
        have i5 : (j : Int) < n := by omega
        by_cases hle : y ≤ x
        · go_wp2_with fail
          go_quiet (fail)
          have HF : Hid (sampF l = 5) := by
            show _ = _
            unfold sampF
            rw [if_neg (by rw [HL.out]; omega), if_neg]
            intro ho
            have := ho j (by rw [HL.out]; omega)
            rw [HX.out, HY.out] at this
            omega
          go_wp2_with fail
          go_ret
          exact ⟨ret_int HF.out.symm, below_drewN hbr _⟩
        · have hlt' : x < y := by omega
          have HN : Hid (∀ i, i < j + 1 → i + 1 < n → fld l i 0 < fld l (i + 1) 0) := by
            intro i hi hi2
            rcases Nat.lt_or_eq_of_le (Nat.le_of_lt_succ hi) with h | h
            · exact hord.out i h hi2
            · obtain rfl : i = j := h
              rw [HX.out, HY.out]; exact hlt'
          go_wp2_with fail
          go_quiet (fail)
          go_wp2
          go_roundw
          case rel => exact ⟨j + 1, by omega, by go_num, rfl, below_drewN hbr _, HN⟩
          case measure => simp [intOf]; omega
      · have HF : Hid (sampF l = 0) := by
          show _ = _
          unfold sampF
          rw [if_neg (by rw [HL.out]; omega), if_pos]
          intro i hi
          rw [HL.out] at hi
          exact hord.out i (by omega) hi
        go_wp2_with fail
        go_ret
        exact ⟨ret_int HF.out.symm, hbr⟩
end Go.Proofs.YtbifhmbfmoeofaaDoor.Smp
/-
  Words shared by the walks, part three: rows of structs that are written over.
-/
namespace Go.Gh
open Go.RowKit
set_option linter.unusedVariables false

def setCells (w : World) (g k : Nat) : List Value → World
  | [] => w
  | u :: us => setCells (w.setCell ⟨g, k, none⟩ u) g (k + 1) us
def setFrom (xs : List Value) (k : Nat) : List Value → List Value
  | [] => xs
  | u :: us => setFrom (xs.set k u) (k + 1) us
theorem own_stores {B g n cap size : Nat} {e : TypeId} : ∀ (us : List Value) (w : World) (k : Nat) (xs : List Value), w.ownsRow B e size (.slice (some ⟨g, 0, none⟩) n cap) n xs →
    (setCells w g k us).ownsRow B e size (.slice (some ⟨g, 0, none⟩) n cap) n (setFrom xs k us)
  | [], w, k, xs, h => h
  | u :: us, w, k, xs, h => own_stores us _ (k + 1) _ (h.stored k u).1
theorem below_stores {B g : Nat} {w0 : World} (hg : B ≤ g) : ∀ (us : List Value) (w : World) (k : Nat), Below B w0 w → Below B w0 (setCells w g k us)
  | [], w, k, h => h
  | u :: us, w, k, h => below_stores hg us _ (k + 1) (h.setCell (p := ⟨g, k, none⟩) hg u)
theorem row_stores {b : Nat} {e : TypeId} : ∀ (us : List Value) (w : World) (k : Nat) (cs : List Value), w.heap[b]? = some (.cells cs.toArray e (0, 0)) → (setCells w b k us).heap[b]? = some (.cells (setFrom cs k us).toArray e (0, 0))
  | [], w, k, cs, h => h
  | u :: us, w, k, cs, h => by
    have := row_setCell k u h
    rw [List.setIfInBounds_toArray] at this
    exact row_stores us _ (k + 1) (cs.set k u) this
theorem own_stores_other {B n b size : Nat} {e : TypeId} {v : Value} {xs : List Value} (hne : v.ownBlock ≠ some b) : ∀ (us : List Value) (w : World) (k : Nat), w.ownsRow B e size v n xs → (setCells w b k us).ownsRow B e size v n xs
  | [], w, k, h => h
  | u :: us, w, k, h => own_stores_other hne us _ (k + 1) (ownsRow_setCell_other h (a := ⟨b, k, none⟩) hne u)
theorem block_stores_other {b b' : Nat} {o : Obj} (hne : b' ≠ b) : ∀ (us : List Value) (w : World) (k : Nat), w.heap[b']? = some o → (setCells w b k us).heap[b']? = some o
  | [], w, k, h => h
  | u :: us, w, k, h => block_stores_other hne us _ (k + 1) (row_setCell_other u h hne)
theorem setFrom_mid : ∀ (us mid pre post : List Value), mid.length = us.length → setFrom (pre ++ mid ++ post) pre.length us = pre ++ us ++ post
  | [], mid, pre, post, h => by
    have : mid = [] := List.length_eq_zero_iff.1 h
    subst this; rfl
  | u :: us, mid, pre, post, h => by
    match mid, h with
    | m :: mid, h =>
      have e : (pre ++ m :: mid ++ post).set pre.length u = (pre ++ [u]) ++ mid ++ post := by
        rw [List.append_assoc, List.set_append_right _ _ (Nat.le_refl _)]
        simp
      have := setFrom_mid us mid (pre ++ [u]) post (by simpa using h)
      rw [setFrom, e]
      rw [List.length_append, List.length_singleton] at this
      rw [this]
      simp
theorem setFrom_all (us cs : List Value) (h : cs.length = us.length) : setFrom cs 0 us = us := by
  have := setFrom_mid us cs [] [] h
  simpa using this
def RowsK (k : Nat) (l : List (List Int)) : Prop := ∀ r ∈ l, r.length = k
theorem Rows64.k {k : Nat} {l : List (List Int)} (h : Rows64 k l) : RowsK k l := fun r hr => (h r hr).1
theorem rowCells_append (a b : List (List Int)) : rowCells (a ++ b) = rowCells a ++ rowCells b := by
  unfold rowCells; rw [List.flatMap_append]
theorem rowCells_one (r : List Int) : rowCells [r] = r.map (Value.int .i64) := by
  unfold rowCells; simp
/-- A row is written over. -/
theorem setFrom_row {k : Nat} (l : List (List Int)) (h : RowsK k l) (i : Nat) (hi : i < l.length) (r : List Int) (hr : r.length = k) : setFrom (rowCells l) (i * k) (r.map (Value.int .i64)) = rowCells (l.set i r) := by
  have e1 : l = l.take i ++ [l[i]] ++ l.drop (i + 1) := by
    rw [List.append_assoc, List.singleton_append, ← List.drop_eq_getElem_cons hi, List.take_append_drop]
  have e2 : l.set i r = l.take i ++ [r] ++ l.drop (i + 1) := by
    rw [List.set_eq_take_append_cons_drop, if_pos hi, List.append_assoc, List.singleton_append]
  rw [e2]
  conv => lhs; rw [e1]
  rw [rowCells_append, rowCells_append, rowCells_append, rowCells_append, rowCells_one, rowCells_one]
  have hl : (rowCells (l.take i)).length = i * k := by
    rw [rowCells_len k _ (fun r hr => h r (List.mem_of_mem_take hr)), List.length_take, Nat.min_eq_left (by omega)]
  rw [← hl]
  exact setFrom_mid _ _ _ _ (by simp [hr, h l[i] (List.getElem_mem _)])
/-- An element: where it lies, and its fields' cells (lengths alone asked). -/
theorem Sl.rowk {w : World} {ao : Option Addr} {n c k : Nat} {l : List (List Int)} (h : Sl w k (.slice ao n c) n (rowCells l)) (hl : l.length = n) (hr : RowsK k l) {i : Nat} (hi : i < n) :
    ∃ b off, ao = some ⟨b, off, none⟩ ∧ (l.getD i []).length = k ∧ ∀ j, j < k → w.cell? ⟨b, off + i * k + j, none⟩ = some (.int .i64 ((l.getD i []).getD j 0)) := by
  obtain ⟨ao', cap, h1, h2, h3, h4, h5, h6⟩ := h
  simp at h1
  obtain ⟨rfl, rfl⟩ := h1
  obtain ⟨b, off, rfl, hc⟩ := h6 (by omega)
  have hil : i < l.length := by omega
  have hg : l.getD i [] = l[i] := by rw [List.getD_eq_getElem?_getD, List.getElem?_eq_getElem hil]; rfl
  rw [hg]
  have hri := hr l[i] (List.getElem_mem _)
  refine ⟨b, off, rfl, hri, fun j hj => ?_⟩
  have := rowCells_get k l hr i j hil hj
  rw [Nat.add_assoc]
  refine hc _ _ ?_
  rw [this]
  have hj' : j < l[i].length := by rw [hri]; exact hj
  simp [hj']
theorem own_shape {w : World} {B : Nat} {e : TypeId} {size n : Nat} {v : Value} {xs : List Value} (h : w.ownsRow B e size v n xs) : ∃ ao c, v = .slice ao n c ∧ n ≤ c ∧ c ≤ 9223372036854775807 ∧ xs.length = n * size := (own_sl h).shape
/-- The rows that an owned row holds, cell by cell. -/
theorem own_row {w : World} {B : Nat} {e : TypeId} {g n cap k : Nat} {l : List (List Int)} (h : w.ownsRow B e k (.slice (some ⟨g, 0, none⟩) n cap) n (rowCells l)) (hr : RowsK k l) (hl : l.length = n) {i j : Nat} (hi : i < n) (hj : j < k) :
    w.cell? ⟨g, i * k + j, none⟩ = some (.int .i64 ((l.getD i []).getD j 0)) ∧ w.frozen? ⟨g, i * k + j, none⟩ = false := by
  refine ⟨?_, h.frozenAt _⟩
  have hlt : i * k + j < n * k := by
    have : (i + 1) * k ≤ n * k := Nat.mul_le_mul_right _ hi
    rw [Nat.succ_mul] at this
    omega
  rw [h.cellAt _ hlt]
  have := rowCells_get k l hr i j (by omega) hj
  rw [this]
  have hil : i < l.length := by omega
  have hri := hr l[i] (List.getElem_mem _)
  have hj' : j < l[i].length := by rw [hri]; exact hj
  have hg : l.getD i [] = l[i] := by rw [List.getD_eq_getElem?_getD, List.getElem?_eq_getElem hil]; rfl
  rw [hg]
  simp [hj']
end Go.Gh
/-
  Slice expressions on slices that read as lists of cells.
-/
namespace Go.Gh
open Go.RowKit
set_option linter.unusedVariables false

theorem sl_sliced {w : World} {size n L H cap : Nat} {ao : Option Addr} {xs : List Value} (h : Sl w size (.slice ao n cap) n xs) (h1 : L ≤ H) (h2 : H ≤ n) : Sl w size (sliced ao L H cap size) (H - L) ((xs.drop (L * size)).take ((H - L) * size)) := by
  obtain ⟨ao', cap', e1, e2, e3, e4, e5, e6⟩ := h
  simp at e1
  obtain ⟨rfl, rfl⟩ := e1
  have hlen : ((xs.drop (L * size)).take ((H - L) * size)).length = (H - L) * size := by
    rw [List.length_take, List.length_drop, e5]
    have : (H - L) * size + L * size ≤ n * size := by rw [← Nat.add_mul]; exact Nat.mul_le_mul_right _ (by omega)
    omega
  refine ⟨_, cap - L, rfl, by omega, by omega, ?_, hlen, fun hn => ?_⟩
  · intro hnone
    split at hnone
    · omega
    · have : ao = none := by
        cases ao with
        | none => rfl
        | some a => simp at hnone
      have := e4 this
      omega
  · obtain ⟨b, off, rfl, hc⟩ := e6 (by omega)
    rw [if_neg (by omega)]
    refine ⟨b, off + L * size, by simp [addr_add], fun i u hu => ?_⟩
    have hi : i < (H - L) * size := by
      rcases Nat.lt_or_ge i ((H - L) * size) with h | h
      · exact h
      · rw [List.getElem?_eq_none (by rw [hlen]; exact h)] at hu; simp at hu
    rw [List.getElem?_take, if_pos hi, List.getElem?_drop] at hu
    rw [Nat.add_assoc]
    exact hc _ u hu
theorem wpList_run {P : Program} {ops : Array Oper} {rest : List Oper} {o : Oper} {a : Act} {Q : Exit → Act → World → Prop} {W : World} {v : Value} (hgd : o.guard = none) (h : (execOp a.eval o).run P W = .ok (.value v) W) (hk : wpList P ops Q rest (a.put o.dst v) W) : wpList P ops Q (o :: rest) a W :=
  wpList_plain hgd fun _ hK => by
    unfold Oper.wp
    rw [h]
    exact hK _ _ hk
theorem run_sizeOf_el {P : Program} {t e : TypeId} {size bytes : Nat} (el : Elem P t e size bytes) (w : World) : (sizeOf e).run P w = .ok size w := by
  obtain ⟨i, z, h2, h3, h4, _⟩ := el.info
  simp [sizeOf, typeInfo, h2, h4]
theorem elem_eq {P : Program} {t e : TypeId} {size bytes : Nat} (el : Elem P t e size bytes) : P.underlying t = some (.slice (P.elem t)) ∧ P.elem t = e := by
  have h := el.und
  have : P.elem t = e := by unfold Program.elem; rw [h]
  exact ⟨by rw [this]; exact h, this⟩
theorem exec_slice {P : Program} {ρ : Operand → Value} {o : Oper} {W : World} {t e : TypeId} {size bytes n cap L H : Nat} {ao : Option Addr} {x : Operand} {lo hi : Option Operand} (el : Elem P t e size bytes) (ho : o.op = .slice t x lo hi none) (hx : ρ x = .slice ao n cap)
    (hr : (Instr.slice t (.slice ao n cap) (lo.map ρ) (hi.map ρ) none).run P W = ((sizeOf (P.elem t)).run P W).andThen fun s w => .ok (sliced ao L H cap s) w) : (execOp ρ o).run P W = .ok (.value (sliced ao L H cap size)) W := by
  obtain ⟨e1, e2⟩ := elem_eq el
  unfold execOp
  rw [ho]
  simp only [Sem.run_bind, Option.map_none, hx, run_sliceAt_slice W t _ _ _ _ e1, hr, e2, run_sizeOf_el el, Result.andThen_ok]
  rfl
/-- x[1:] of a slice that is not empty. -/
theorem wpList_tail {P : Program} {ops : Array Oper} {rest : List Oper} {o : Oper} {a : Act} {Q : Exit → Act → World → Prop} {W W0 : World} {t e : TypeId} {size bytes n : Nat} {x : Operand} {v : Value} {xs : List Value} (el : Elem P t e size bytes) (hgd : o.guard = none)
    (ho : o.op = .slice t x (some (.const (.int .i64 1))) none none) (hx : a.eval x = v) (hS : Sl W0 size v (n + 1) xs) (h : ∀ ao c, Sl W0 size (.slice ao n c) n (xs.drop size) → wpList P ops Q rest (a.put o.dst (.slice ao n c)) W) : wpList P ops Q (o :: rest) a W := by
  obtain ⟨ao, cap, rfl, h2, h3, h4, h5, h6⟩ := hS
  have hS : Sl W0 size (.slice ao (n + 1) cap) (n + 1) xs := ⟨ao, cap, rfl, h2, h3, h4, h5, h6⟩
  obtain ⟨e1, e2⟩ := elem_eq el
  refine wpList_run hgd (exec_slice (L := 1) (H := n + 1) el ho hx ?_) ?_
  · simp only [Option.map_some, Option.map_none]
    exact run_slice_l W t ao (n + 1) cap e1 .i64 1 (by decide) (by omega)
  · have := sl_sliced hS (show 1 ≤ n + 1 by omega) (Nat.le_refl _)
    rw [Nat.one_mul, List.take_of_length_le (by rw [List.length_drop, h5, Nat.add_sub_cancel, Nat.add_mul]; omega)] at this
    exact h _ _ this
/-- x[lo:hi]. -/
theorem wpList_cut {P : Program} {ops : Array Oper} {rest : List Oper} {o : Oper} {a : Act} {Q : Exit → Act → World → Prop} {W W0 : World} {t e : TypeId} {size bytes n : Nat} {x l h : Operand} {v : Value} {xs : List Value} (L H : Nat) (el : Elem P t e size bytes) (hgd : o.guard = none)
    (ho : o.op = .slice t x (some l) (some h) none) (hx : a.eval x = v) (hl : ∃ k, a.eval l = .int k L) (hh : ∃ k, a.eval h = .int k H) (hS : Sl W0 size v n xs) (h1 : L ≤ H) (h2 : H ≤ n) (hk : ∀ ao c, Sl W0 size (.slice ao (H - L) c) (H - L) ((xs.drop (L * size)).take ((H - L) * size)) → wpList P ops Q rest (a.put o.dst (.slice ao (H - L) c)) W) : wpList P ops Q (o :: rest) a W := by
  obtain ⟨ao, cap, rfl, g2, g3, g4, g5, g6⟩ := hS
  have hS : Sl W0 size (.slice ao n cap) n xs := ⟨ao, cap, rfl, g2, g3, g4, g5, g6⟩
  obtain ⟨e1, e2⟩ := elem_eq el
  obtain ⟨kl, hl⟩ := hl
  obtain ⟨kh, hh⟩ := hh
  refine wpList_run hgd (exec_slice (L := L) (H := H) el ho hx ?_) ?_
  · simp only [Option.map_some, hl, hh]
    have := run_slice_lh W t ao n cap e1 kl kh (L : Int) (H : Int) (by omega) (by omega) (by omega)
    simpa using this
  · exact hk _ _ (sl_sliced hS h1 h2)
theorem rowCells_drop {k : Nat} {l : List (List Int)} (h : RowsK k l) (i : Nat) (hi : i ≤ l.length) : (rowCells l).drop (i * k) = rowCells (l.drop i) := by
  conv => lhs; rw [← List.take_append_drop i l]
  rw [rowCells_append]
  have hl : (rowCells (l.take i)).length = i * k := by
    rw [rowCells_len k _ (fun r hr => h r (List.mem_of_mem_take hr)), List.length_take, Nat.min_eq_left hi]
  rw [List.drop_append_of_le_length (by omega), List.drop_of_length_le (by omega), List.nil_append]
theorem rowCells_take {k : Nat} {l : List (List Int)} (h : RowsK k l) (i : Nat) : (rowCells l).take (i * k) = rowCells (l.take i) := by
  rcases Nat.lt_or_ge i l.length with hi | hi
  · conv => lhs; rw [← List.take_append_drop i l]
    rw [rowCells_append]
    have hl : (rowCells (l.take i)).length = i * k := by
      rw [rowCells_len k _ (fun r hr => h r (List.mem_of_mem_take hr)), List.length_take, Nat.min_eq_left (by omega)]
    rw [List.take_append_of_le_length (by omega), List.take_of_length_le (by omega)]
  · rw [List.take_of_length_le hi, List.take_of_length_le]
    rw [rowCells_len k _ h]
    exact Nat.mul_le_mul_right _ hi
theorem RowsK.drop {k : Nat} {l : List (List Int)} (h : RowsK k l) (i : Nat) : RowsK k (l.drop i) := fun r hr => h r (List.mem_of_mem_drop hr)
theorem RowsK.tail {k : Nat} {r : List Int} {l : List (List Int)} (h : RowsK k (r :: l)) : RowsK k l := fun x hx => h x (List.mem_cons_of_mem _ hx)
theorem rowCells_tail {k : Nat} {r : List Int} {l : List (List Int)} (h : r.length = k) : (rowCells (r :: l)).drop k = rowCells l := by
  unfold rowCells
  rw [List.flatMap_cons, List.drop_append_of_le_length (by simp; omega), List.drop_of_length_le (by simp; omega), List.nil_append]
theorem RowsK.snoc {k : Nat} {acc : List (List Int)} {r : List Int} (h : RowsK k acc) (hr : r.length = k) : RowsK k (acc ++ [r]) := by
  intro x hx
  rcases List.mem_append.1 hx with h' | h'
  · exact h x h'
  · simp at h'; subst h'; exact hr
/-- The head of a list of rows: where it lies, its cells. -/
theorem Sl.head {w : World} {ao : Option Addr} {n c k : Nat} {r : List Int} {l : List (List Int)} (h : Sl w k (.slice ao n c) n (rowCells (r :: l))) (hn : (r :: l).length = n) (hr : RowsK k (r :: l)) :
    ∃ b off, ao = some ⟨b, off, none⟩ ∧ r.length = k ∧ ∀ j, j < k → w.cell? ⟨b, off + j, none⟩ = some (.int .i64 (r.getD j 0)) := by
  obtain ⟨b, off, h1, h2, h3⟩ := h.rowk hn hr (i := 0) (by rw [← hn]; simp)
  refine ⟨b, off, h1, h2, fun j hj => ?_⟩
  have := h3 j hj
  rwa [Nat.zero_mul, Nat.add_zero] at this
end Go.Gh
