/-
  Sieves: the walk of GuessOf.
-/
import Derived.Test.YtlfhcjhbnakamaaLg1
import Derived.Test.YtlfhcjhbnakamaaLg2
import Derived.Test.YtlfhcjhbnakamaaLg5
import Derived.Test.YtlfhcjhbnakamaaLg10
import Derived.Shelf.Lay
import Derived.Shelf.LaySoft
import Derived.Shelf.Small.Bits
import Derived.Test.YtlfhcjhbnakamaaProg
import Derived.Lib.BitFns
import Derived.Deep.CutBlock
import Derived.Lib.SmallJoins
import Derived.IntWalk
namespace Go.Proofs.Ytlfhcjhbnakamaa.Lst
open Go.RowKit Go.Gh Go.Proofs.Ytlfhcjhbnakamaa.Qs
set_option linter.unusedVariables false
set_option linter.unusedSimpArgs false
set_option maxHeartbeats 8000000 in
set_option maxRecDepth 100000 in
theorem guessof_any (v : Value) (s : Ls) (w : World) (hv : LsV w v s) (h0 : lsF s = 0) : Calls Try.prog 37 #[v] w fun e w' => e = .returned (.int .u64 (guessL s)) ∧ Below w.heap.size w w' := by
  obtain ⟨t, rfl, hs, hz, hk1, hk2, hn9⟩ := hv
  obtain ⟨K, l⟩ := s
  obtain ⟨g1, g2, g3, hris⟩ := lsF_ok h0
  have g1 : 2 ≤ K := g1
  have g2 : K ≤ 64 := g2
  have g3 : (l.length : Int) ≤ K := g3
  have hs : Sl w 1 t l.length (l.map (Value.int .u64)) := hs
  have hz : ∀ z ∈ l, U64 z := hz
  clear hk1 hk2 hn9 h0 hris
  show Calls Try.prog 37 #[.agg #[.int .i64 K, t]] w _
  obtain ⟨k1, rfl⟩ : ∃ k1 : Nat, K = (k1 : Int) + 1 := ⟨K.toNat - 1, by omega⟩
  obtain ⟨n, hn⟩ : ∃ n, l.length = n := ⟨_, rfl⟩
  obtain ⟨G, hG⟩ : ∃ G, guessL ⟨(k1 : Int) + 1, l⟩ = G := ⟨_, rfl⟩
  rw [hG]
  have HG : Hid (G = if (n : Int) < (k1 : Int) + 1 then (n : Int) else if l.getD k1 0 = 18446744073709551615 then (k1 : Int) else if l.getD k1 0 + 1 ≤ (k1 : Int) then 18446744073709551615 else (k1 : Int) * 18446744073709551616 / (l.getD k1 0 + 1)) := Lib.hid (by
    rw [← hG, ← hn]
    unfold guessL
    simp only [show ((k1 : Int) + 1).toNat - 1 = k1 by omega, show (k1 : Int) + 1 - 1 = (k1 : Int) by omega])
  rw [hn] at hs g3
  obtain ⟨ao, c, rfl, hnc, hc, -⟩ := hs.shape
  have HN := Lib.hid hn
  obtain ⟨wa, hwa, hbox, hba, hsa⟩ := box_ls w (.int .i64 ((k1 : Int) + 1)) (.slice ao n c)
  have HS := Lib.hid (hs.below hba)
  have HWA := Lib.hid hwa
  have HBA := Lib.hid hba
  have HZ := Lib.hid hz
  obtain ⟨⟨d0, d1⟩, -⟩ := bx2 hbox
  obtain ⟨bx, hbx⟩ : ∃ bx, w.heap.size = bx := ⟨_, rfl⟩
  rw [hbx] at d0 d1
  have HBE := Lib.hid hbx
  have wk : IntKind.i64.wrap ((k1 : Int) + 1 - 1) = (k1 : Int) := by rw [show (k1 : Int) + 1 - 1 = (k1 : Int) by omega]; exact IntWalk.i64_in _ (by omega)
  have wk2 : IntKind.u64.wrap (k1 : Int) = (k1 : Int) := IntWalk.u64_in _ (by omega)
  have wk3 : IntKind.u64.wrap ((k1 : Int) + 1 - 1) = (k1 : Int) := by rw [show (k1 : Int) + 1 - 1 = (k1 : Int) by omega]; exact wk2
  clear hs hn hG hwa hba hsa hbox hbx hz
  go_enter Try.func37, Try.ntmps37
  go_upto_region 1 with (fail)
  rw [HBE.out, ← HWA.out]
  by_cases c1 : (n : Int) < (k1 : Int) + 1
  · have hg : G = (n : Int) := by rw [HG.out]; exact if_pos c1
    subst hg
    have wn : IntKind.u64.wrap (n : Int) = (n : Int) := IntWalk.u64_in _ (by omega)
    go_wp2_with fail
    go_ret
    exact ⟨rfl, HBA.out⟩
  obtain rfl : n = k1 + 1 := by omega
  have HG2 := Lib.hid (HG.out.trans (if_neg c1))
  clear HG
  obtain ⟨m, hm⟩ : ∃ m, l[k1]? = some m := ⟨_, List.getElem?_eq_getElem (by rw [HN.out]; omega)⟩
  obtain ⟨b, off, rfl, m0⟩ := sl_elU HS.out hm (by omega)
  have hmU := HZ.out m (List.mem_of_getElem? hm)
  have hgd : l.getD k1 0 = m := by rw [List.getD_eq_getElem?_getD, hm]; rfl
  rw [hgd] at HG2
  obtain ⟨hm1, hm2⟩ := hmU
  have hk0 : (0 : Int) ≤ (k1 : Int) := by omega
  have hkn : (k1 : Int) < (k1 : Int) + 1 := by omega
  clear hm hgd
  by_cases c2 : m = 18446744073709551615
  · have hg : G = (k1 : Int) := by rw [HG2.out]; exact if_pos c2
    subst hg
    have t1 : (m == 18446744073709551615) = true := by rw [c2]; rfl
    clear c2
    go_wp2_with fail
    go_ret
    exact ⟨rfl, HBA.out⟩
  have HG3 := Lib.hid (HG2.out.trans (if_neg c2))
  have t1 : (m == 18446744073709551615) = false := by rw [beq_eq_false_iff_ne]; exact c2
  clear HG2
  obtain ⟨Y, hY⟩ : ∃ Y : Nat, m + 1 = (Y : Int) := ⟨(m + 1).toNat, by omega⟩
  have hY1 : 1 ≤ Y := by omega
  have hY2 : Y < 18446744073709551616 := by omega
  have wY : IntKind.u64.wrap (m + 1) = (Y : Int) := by rw [hY]; exact IntWalk.u64_in _ (by omega)
  have HG4 : Hid (G = if (Y : Int) ≤ (k1 : Int) then 18446744073709551615 else (k1 : Int) * 18446744073709551616 / (Y : Int)) := Lib.hid (by rw [HG3.out, hY])
  clear HG3 hY c2
  by_cases c3 : Y ≤ k1
  · have hg : G = 18446744073709551615 := by rw [HG4.out]; exact if_pos (by omega)
    subst hg
    have t2 : decide ((Y : Int) ≤ (k1 : Int)) = true := decide_eq_true (by omega)
    have t3 : decide (Y ≤ k1) = true := decide_eq_true c3
    go_wp2_with fail
    go_ret
    exact ⟨rfl, HBA.out⟩
  have HG5 : Hid (G = (((k1 * 18446744073709551616 / Y : Nat) : Nat) : Int)) := Lib.hid (by
    rw [HG4.out, if_neg (by omega)]
    rw [Int.natCast_ediv, Int.natCast_mul]
    rfl)
  have t2 : decide ((Y : Int) ≤ (k1 : Int)) = false := decide_eq_false (by omega)
  have t3 : decide (Y ≤ k1) = false := decide_eq_false c3
  have HD0 : Hid (Dv k1 Y 0 0 k1) := Lib.hid (dv_start (by omega))
  clear HG4
  go_wp2_with fail
  clear t1 t2 t3 m0 wY wk wk2 wk3 d0 d1
  go_loop [5, 6, 40] (fun r q i => ∃ k R Q : Nat, k ≤ 64 ∧ r = .int .u64 R ∧ q = .int .u64 Q ∧ i = .int .i64 k ∧ Hid (Dv k1 Y k Q R)) (fun _ _ i => 64 - (intOf i).toNat)
  case atStart => exact ⟨0, k1, 0, by omega, rfl, rfl, rfl, HD0⟩
  case round =>
    obtain ⟨k, R, Q, hk, rfl, rfl, rfl, HD⟩ := hrel
    by_cases hlt : k < 64
    case neg =>
      obtain rfl : k = 64 := by omega
      have hg : G = (Q : Int) := by rw [HG5.out, dv_end HD.out]
      subst hg
      go_wp2_with fail
      go_ret
      exact ⟨rfl, HBA.out⟩
    have hR := HD.out.1
    have hQ := dv_lt HD.out (by omega)
    have wQ : IntKind.u64.wrap ((Q : Int) + (Q : Int)) = ((2 * Q : Nat) : Int) := by rw [IntKind.wrap_u64]; omega
    have wQ1 : IntKind.u64.wrap (((2 * Q : Nat) : Int) + 1) = ((2 * Q + 1 : Nat) : Int) := by rw [IntKind.wrap_u64]; omega
    obtain ⟨Q2, hQ2⟩ : ∃ Q2, 2 * Q = Q2 := ⟨_, rfl⟩
    rw [hQ2] at wQ wQ1
    obtain ⟨Q3, hQ3⟩ : ∃ Q3, Q2 + 1 = Q3 := ⟨_, rfl⟩
    rw [hQ3] at wQ1
    by_cases big : 9223372036854775808 ≤ R
    · obtain ⟨A, hA⟩ : ∃ A, 2 * R - 18446744073709551616 = A := ⟨_, rfl⟩
      obtain ⟨B, hB⟩ : ∃ B, 2 * R - Y = B := ⟨_, rfl⟩
      have wA : IntKind.u64.wrap ((R : Int) + (R : Int)) = (A : Int) := by rw [IntKind.wrap_u64]; omega
      have wB : IntKind.u64.wrap ((A : Int) - (Y : Int)) = (B : Int) := by rw [IntKind.wrap_u64]; omega
      have u1 : decide ((9223372036854775808 : Int) ≤ (R : Int)) = true := decide_eq_true (by omega)
      have u2 : decide (9223372036854775808 ≤ R) = true := decide_eq_true big
      have HD2 : Hid (Dv k1 Y (k + 1) Q3 B) := Lib.hid (by rw [← hQ3, ← hQ2, ← hB]; exact dv_add HD.out (by omega))
      clear big hA hB hQ2 hQ3 hR
      go_wp2_with fail
      go_round
      case rel => exact ⟨k + 1, B, Q3, by omega, rfl, rfl, by go_num, HD2⟩
      case measure => simp [intOf]; omega
    · have u1 : decide ((9223372036854775808 : Int) ≤ (R : Int)) = false := decide_eq_false (by omega)
      have u2 : decide (9223372036854775808 ≤ R) = false := decide_eq_false big
      obtain ⟨A, hA⟩ : ∃ A, 2 * R = A := ⟨_, rfl⟩
      have wA : IntKind.u64.wrap ((R : Int) + (R : Int)) = (A : Int) := by rw [IntKind.wrap_u64]; omega
      by_cases ge : Y ≤ A
      · obtain ⟨B, hB⟩ : ∃ B, A - Y = B := ⟨_, rfl⟩
        have wB : IntKind.u64.wrap ((A : Int) - (Y : Int)) = (B : Int) := by rw [IntKind.wrap_u64]; omega
        have v1 : decide ((Y : Int) ≤ (A : Int)) = true := decide_eq_true (by omega)
        have v2 : decide (Y ≤ A) = true := decide_eq_true ge
        have HD2 : Hid (Dv k1 Y (k + 1) Q3 B) := Lib.hid (by rw [← hQ3, ← hQ2, ← hB, ← hA]; exact dv_add HD.out (by omega))
        clear big ge hA hB hQ2 hQ3 hR
        go_wp2_with fail
        go_round
        case rel => exact ⟨k + 1, B, Q3, by omega, rfl, rfl, by go_num, HD2⟩
        case measure => simp [intOf]; omega
      · have v1 : decide ((Y : Int) ≤ (A : Int)) = false := decide_eq_false (by omega)
        have v2 : decide (Y ≤ A) = false := decide_eq_false ge
        have HD2 : Hid (Dv k1 Y (k + 1) Q2 A) := Lib.hid (by rw [← hQ2, ← hA]; exact dv_keep HD.out (by omega))
        clear big ge hA hQ2 hQ3 hR
        go_wp2_with fail
        go_round
        case rel => exact ⟨k + 1, A, Q2, by omega, rfl, rfl, by go_num, HD2⟩
        case measure => simp [intOf]; omega
end Go.Proofs.Ytlfhcjhbnakamaa.Lst
/-
  Division of two digits by two, digit by digit (base 2^32): as plain numbers.
-/
namespace Go.Gh
set_option linter.unusedVariables false
set_option linter.unusedSimpArgs false
/-- A digit that is guessed: q of (u b + d) / (v1 b + v0), and what is left of u by v1. -/
def Kn (b u d v1 v0 q r : Nat) : Prop := q * v1 + r = u ∧ (u * b + d) / (v1 * b + v0) ≤ q ∧ r < b ∧ q ≤ b + 1
section
variable {b u d v1 v0 q r : Nat}
theorem kn_lt (hv : 0 < v1 * b + v0) (hu : u < v1 * b + v0) (hd : d < b) : (u * b + d) / (v1 * b + v0) < b := by
  refine Nat.div_lt_of_lt_mul ?_
  have : (u + 1) * b ≤ (v1 * b + v0) * b := Nat.mul_le_mul_right _ hu
  rw [Nat.add_mul, Nat.one_mul] at this
  omega
theorem kn_start (h1 : b ≤ 2 * v1) (h2 : v1 < b) (h3 : v0 < b) (hu : u < v1 * b + v0) (hd : d < b) : Kn b u d v1 v0 (u / v1) (u % v1) := by
  have hv1 : 0 < v1 := by omega
  have e := Nat.div_add_mod u v1
  have hm := Nat.mod_lt u hv1
  refine ⟨by rw [Nat.mul_comm]; exact e, ?_, by omega, ?_⟩
  · refine Classical.byContradiction fun hc => ?_
    obtain ⟨Q, hQ⟩ : ∃ Q, (u * b + d) / (v1 * b + v0) = Q := ⟨_, rfl⟩
    rw [hQ] at hc
    have hq1 : u / v1 + 1 ≤ Q := by omega
    have hle : Q * (v1 * b + v0) ≤ u * b + d := by rw [← hQ]; exact Nat.div_mul_le_self _ _
    have hA : (u / v1 + 1) * (v1 * b) ≤ Q * (v1 * b + v0) := Nat.mul_le_mul hq1 (Nat.le_add_right _ _)
    have hB : (u + 1) * b ≤ (u / v1 + 1) * (v1 * b) := by
      rw [← Nat.mul_assoc]
      refine Nat.mul_le_mul_right _ ?_
      rw [Nat.add_mul, Nat.one_mul, Nat.mul_comm]
      omega
    rw [Nat.add_mul, Nat.one_mul] at hB
    omega
  · have : u / v1 < b + 2 := by
      refine Nat.div_lt_of_lt_mul ?_
      rw [Nat.mul_add]
      omega
    omega
/-- Too much: one less. -/
theorem kn_step (h : Kn b u d v1 v0 q r) (hv : 0 < v1 * b + v0) (hu : u < v1 * b + v0) (hd : d < b) (ht : b ≤ q ∨ b * r + d < q * v0) : 1 ≤ q ∧ (q - 1) * v1 + (r + v1) = u ∧ (u * b + d) / (v1 * b + v0) ≤ q - 1 ∧ q - 1 ≤ b := by
  obtain ⟨e, h2, h3, h4⟩ := h
  have hlt : (u * b + d) / (v1 * b + v0) < q := by
    rcases ht with ht | ht
    · exact Nat.lt_of_lt_of_le (kn_lt hv hu hd) ht
    · refine (Nat.div_lt_iff_lt_mul hv).2 ?_
      have e2 : u * b = q * v1 * b + r * b := by rw [← e, Nat.add_mul]
      rw [Nat.mul_add, ← Nat.mul_assoc, e2, Nat.mul_comm r b]
      omega
  have hq : 1 ≤ q := Nat.lt_of_le_of_lt (Nat.zero_le _) hlt
  refine ⟨hq, ?_, Nat.le_sub_one_of_lt hlt, by omega⟩
  obtain ⟨p, rfl⟩ : ∃ p, q = p + 1 := ⟨q - 1, by omega⟩
  rw [Nat.add_mul, Nat.one_mul] at e
  simp only [Nat.add_sub_cancel]
  omega
/-- It is the digit. -/
theorem kn_stop (e : q * v1 + r = u) (h2 : (u * b + d) / (v1 * b + v0) ≤ q) (hv : 0 < v1 * b + v0) (ht : q * v0 ≤ b * r + d) : q = (u * b + d) / (v1 * b + v0) := by
  refine Nat.le_antisymm ?_ h2
  refine (Nat.le_div_iff_mul_le hv).2 ?_
  have e2 : u * b = q * v1 * b + r * b := by rw [← e, Nat.add_mul]
  rw [Nat.mul_add, ← Nat.mul_assoc, e2, Nat.mul_comm r b]
  omega
theorem kn_big (hq : q ≤ b) (h3 : v0 < b) (hr : b ≤ r) : q * v0 ≤ b * r + d := by
  have h1 : q * v0 ≤ b * b := Nat.mul_le_mul hq (by omega)
  have h4 : b * b ≤ b * r := Nat.mul_le_mul_left _ hr
  omega
end
/-- Two digits make the whole. -/
theorem kn_two {b u v : Nat} (hv : 0 < v) : (u * b / v) * b + ((u * b % v) * b) / v = u * b * b / v := by
  have e := Nat.div_add_mod (u * b) v
  have : u * b * b = v * (u * b / v * b) + u * b % v * b := by
    conv => lhs; rw [← e]
    rw [Nat.add_mul, Nat.mul_assoc]
  rw [this, Nat.mul_add_div hv]
/-- Both sides moved by s. -/
theorem div_shift {a y c s : Nat} (hs : 0 < s) : a * s * c / (y * s) = a * c / y := by
  rw [Nat.mul_right_comm, Nat.mul_div_mul_right _ _ hs]
end Go.Gh
/-
  Contracts of the library at this program, laid by the kit's own tool (in plain words).
-/
namespace Go.Proofs
open Go.Shelf
def Ytlfhcjhbnakamaa.lays134_ren : Go.Shelf.Ren := ⟨fun | 134 => 89 | 129 => 82 | n => n, fun | 53 => 22 | 3 => 3 | 4 => 4 | 46 => 76 | 5 => 5 | 9 => 9 | n => n, fun | n => n⟩
theorem Ytlfhcjhbnakamaa.lays134 : Go.Proofs.Lays.n134 Try.prog Ytlfhcjhbnakamaa.lays134_ren := {
  mixed := by kernel_rfl
  f129 := Try.func82.trans (congrArg some (by kernel_rfl))
  f134 := Try.func89.trans (congrArg some (by kernel_rfl))
  t3 := Try.underlying3
  a3 := Try.isAgg3
  z3 := Try.sizeOf3
  v3 := Try.zeroValue3
  t4 := Try.underlying4
  a4 := Try.isAgg4
  z4 := Try.sizeOf4
  v4 := Try.zeroValue4
  t5 := Try.underlying5
  a5 := Try.isAgg5
  z5 := Try.sizeOf5
  v5 := Try.zeroValue5
  t9 := Try.underlying9
  a9 := Try.isAgg9
  z9 := Try.sizeOf9
  v9 := Try.zeroValue9
  t46 := Try.underlying76
  a46 := Try.isAgg76
  z46 := Try.sizeOf76
  v46 := Try.zeroValue76
  t53 := Try.underlying22
  a53 := Try.isAgg22
  z53 := Try.sizeOf22
  v53 := Try.zeroValue22 }
theorem Ytlfhcjhbnakamaa.bits_LeadingZeros64 (x : Int) (w : World) (h0 : 0 ≤ x) (h1 : x ≤ 18446744073709551615) :
    Calls Try.prog 89 #[.int .u64 x] w fun e w' => e = .returned (.int .i64 (64 - (Lib.bitLen x.toNat : Int))) ∧ w' = w := Any.bits_LeadingZeros64 Ytlfhcjhbnakamaa.lays134 x w h0 h1
end Go.Proofs
/-
  Sieves: the walk of bits.Div64.
-/
namespace Go.Proofs.Ytlfhcjhbnakamaa.Lst
open Go.RowKit Go.Gh
set_option linter.unusedVariables false
set_option linter.unusedSimpArgs false
theorem blen_pos : ∀ (k x : Nat), 0 < x → x < 2 ^ k → 1 ≤ Lib.bitLenAux k x ∧ 2 ^ (Lib.bitLenAux k x - 1) ≤ x ∧ x < 2 ^ (Lib.bitLenAux k x)
  | 0, x, h, h2 => by simp at h2; omega
  | k + 1, x, h, h2 => by
    unfold Lib.bitLenAux
    rw [if_neg (by omega)]
    by_cases h1 : x / 2 = 0
    · have hx : x = 1 := by omega
      subst hx
      have e0 : Lib.bitLenAux k (1 / 2) = 0 := by
        cases k with
        | zero => rfl
        | succ k => unfold Lib.bitLenAux; rw [if_pos rfl]
      rw [e0]
      decide
    · obtain ⟨a, b, c⟩ := blen_pos k (x / 2) (by omega) (by rw [Nat.pow_succ] at h2; omega)
      obtain ⟨m, hm⟩ : ∃ m, Lib.bitLenAux k (x / 2) = m + 1 := ⟨Lib.bitLenAux k (x / 2) - 1, by omega⟩
      rw [hm] at b c ⊢
      rw [show 1 + (m + 1) = m + 1 + 1 by omega, show m + 1 + 1 - 1 = m + 1 by omega]
      rw [show m + 1 - 1 = m by omega] at b
      refine ⟨by omega, ?_, ?_⟩
      · rw [Nat.pow_succ]; omega
      · rw [Nat.pow_succ]; omega
set_option maxHeartbeats 8000000 in
set_option maxRecDepth 100000 in
theorem div64_any (a y s : Nat) (w : World) (ha : 0 < a) (ha2 : a ≤ 63) (hay : a < y) (hy : y < 18446744073709551616) (hs : Lib.bitLen y + s = 64) (h63 : 9223372036854775808 ≤ y * 2 ^ s) (h64 : y * 2 ^ s < 18446744073709551616) :
    Calls Try.prog 59 #[.int .u64 a, .int .u64 0, .int .u64 y] w fun e w' => ∃ r, e = .returned (.tuple #[.int .u64 ((a * 18446744073709551616 / y : Nat) : Int), r]) ∧ w' = w := by
  have b1 : ((y : Int) == 0) = false := by rw [beq_eq_false_iff_ne]; omega
  have b2 : decide (y ≤ a) = false := decide_eq_false (by omega)
  have b3 : ((a : Int) == 0) = false := by rw [beq_eq_false_iff_ne]; omega
  have hs64 : s ≤ 63 := by
    rcases Nat.lt_or_ge s 64 with h | h
    · omega
    · exfalso
      have h2 : 2 ^ 64 ≤ 2 ^ s := Nat.pow_le_pow_right (by decide) h
      have h3 : 1 * 2 ^ s ≤ y * 2 ^ s := Nat.mul_le_mul_right _ (by omega)
      omega
  have HLZ : Hid (∀ w, Calls Try.prog 89 #[.int .u64 y] w fun e w' => e = .returned (.int .i64 s) ∧ w' = w) := Lib.hid (fun w => (Ytlfhcjhbnakamaa.bits_LeadingZeros64 (y : Int) w (by omega) (by omega)).mono (by
    rintro e w' ⟨rfl, rfl⟩
    refine ⟨?_, rfl⟩
    rw [Int.toNat_natCast, show (64 - (Lib.bitLen y : Int)) = (s : Int) by omega]))
  have wS : IntKind.u64.wrap (s : Int) = (s : Int) := IntWalk.u64_in _ (by omega)
  obtain ⟨P, hP⟩ : ∃ P, 2 ^ s = P := ⟨_, rfl⟩
  have hPi : (2 : Int) ^ s = (P : Int) := by rw [← hP]; simp
  have hmin : min s 64 = s := by omega
  rw [hP] at h63 h64
  have HPP := Lib.hid hP
  obtain ⟨N, hN⟩ : ∃ N, y * P = N := ⟨_, rfl⟩
  obtain ⟨U, hU⟩ : ∃ U, a * P = U := ⟨_, rfl⟩
  have hUN : U < N := by rw [← hU, ← hN]; exact Nat.mul_lt_mul_of_pos_right hay (by rw [← hP]; exact Nat.two_pow_pos _)
  rw [hN] at h63 h64
  have wN : IntKind.u64.wrap ((y : Int) * (P : Int)) = (N : Int) := by rw [← Int.natCast_mul, hN]; exact IntWalk.u64_in _ (by omega)
  have wU : IntKind.u64.wrap ((a : Int) * (P : Int)) = (U : Int) := by rw [← Int.natCast_mul, hU]; exact IntWalk.u64_in _ (by omega)
  have HNU := Lib.hid (And.intro hN hU)
  obtain ⟨V1, hV1⟩ : ∃ V1, N / 4294967296 = V1 := ⟨_, rfl⟩
  obtain ⟨V0, hV0⟩ : ∃ V0, N % 4294967296 = V0 := ⟨_, rfl⟩
  have hNV : N = V1 * 4294967296 + V0 := by omega
  have wV1 : (N : Int) / 4294967296 = (V1 : Int) := by omega
  have bA : bits .and .u64 (N : Int) 4294967295 = (V0 : Int) := by
    rw [u64_and _ _ (by omega) (by omega) (by decide) (by decide), Int.toNat_natCast]
    have e : (4294967295 : Int).toNat = 2 ^ 32 - 1 := rfl
    rw [e, Nat.and_two_pow_sub_one_eq_mod]
    omega
  have bA0 : bits .and .u64 0 4294967295 = 0 := by decide +kernel
  have bO : bits .or .u64 (U : Int) 0 = (U : Int) := by
    rw [u64_or _ _ (by omega) (by omega) (by decide) (by decide), Int.toNat_natCast]
    simp
  have hV1p : 2147483648 ≤ V1 := by omega
  have hV1l : V1 < 4294967296 := by omega
  have hV0l : V0 < 4294967296 := by omega
  obtain ⟨Q1, hQ1⟩ : ∃ Q, U / V1 = Q := ⟨_, rfl⟩
  obtain ⟨R1, hR1⟩ : ∃ Q, U % V1 = Q := ⟨_, rfl⟩
  have hKn := kn_start (b := 4294967296) (d := 0) (by omega) hV1l hV0l (by omega : U < V1 * 4294967296 + V0) (by decide)
  rw [hQ1, hR1] at hKn
  have hQR : Q1 * V1 + R1 = U := hKn.1
  have hQb : Q1 ≤ 4294967297 := hKn.2.2.2
  have bT : (U : Int).tdiv (V1 : Int) = (Q1 : Int) := by rw [← hQ1, Int.ofNat_tdiv]
  have bT2 : (U : Int) / (V1 : Int) = (Q1 : Int) := by rw [← hQ1, Int.natCast_ediv]
  have wQ1 : IntKind.u64.wrap (Q1 : Int) = (Q1 : Int) := IntWalk.u64_in _ (by omega)
  have wM : IntKind.u64.wrap ((Q1 : Int) * (V1 : Int)) = (Q1 : Int) * (V1 : Int) := by rw [← Int.natCast_mul]; exact IntWalk.u64_in _ (by omega)
  have wR : IntKind.u64.wrap ((U : Int) - (Q1 : Int) * (V1 : Int)) = (R1 : Int) := by rw [← Int.natCast_mul, show (U : Int) - ((Q1 * V1 : Nat) : Int) = (R1 : Int) by omega]; exact IntWalk.u64_in _ (by omega)
  have HKN := Lib.hid hKn
  have HNV := Lib.hid hNV
  clear hV1 hV0 hQ1 hR1 hKn hQR hNV
  have HAY := Lib.hid (And.intro ha hay)
  clear hs hN hU hP
  go_enter Try.func59, Try.ntmps59
  go_upto_block 0 with (go_at_call 89; refine (HLZ.out _).mono ?_; rintro e w' ⟨rfl, hw⟩; subst hw)
  clear wM wR bT bT2 bA bA0 bO wU wN wS wQ1
  obtain ⟨D1, hD1⟩ : ∃ D, (U * 4294967296 + 0) / (V1 * 4294967296 + V0) = D := ⟨_, rfl⟩
  have HD1 := Lib.hid hD1
  have hvp : 0 < V1 * 4294967296 + V0 := by omega
  have HUV : Hid (U < V1 * 4294967296 + V0) := Lib.hid (by rw [← HNV.out]; exact hUN)
  clear hD1
  go_cut [15] (fun q wx => q = .int .u64 D1 ∧ wx = w')
  case first =>
    go_wp2_with fail
    go_loop [15, 16] (fun q r => ∃ Q R : Nat, q = .int .u64 Q ∧ r = .int .u64 R ∧ Hid (Kn 4294967296 U 0 V1 V0 Q R)) (fun q _ => (intOf q).toNat)
    case atStart => exact ⟨Q1, R1, rfl, rfl, HKN⟩
    case round =>
      obtain ⟨Q, R, rfl, rfl, HK⟩ := hrel
      have hRb := HK.out.2.2.1
      have hQb2 := HK.out.2.2.2
      by_cases hge : 4294967296 ≤ Q
      · have u1 : decide ((4294967296 : Int) ≤ (Q : Int)) = true := decide_eq_true (by omega)
        have u2 : decide (4294967296 ≤ Q) = true := decide_eq_true hge
        have HST := Lib.hid (kn_step HK.out hvp HUV.out (by decide) (Or.inl hge))
        obtain ⟨P2, hP2⟩ : ∃ P, Q - 1 = P := ⟨_, rfl⟩
        rw [hP2] at HST
        obtain ⟨R2, hR2⟩ : ∃ P, R + V1 = P := ⟨_, rfl⟩
        have wP : IntKind.u64.wrap ((Q : Int) - 1) = (P2 : Int) := by rw [show (Q : Int) - 1 = (P2 : Int) by omega]; exact IntWalk.u64_in _ (by omega)
        have wR : IntKind.u64.wrap ((R : Int) + (V1 : Int)) = (R2 : Int) := by rw [show (R : Int) + (V1 : Int) = (R2 : Int) by omega]; exact IntWalk.u64_in _ (by omega)
        rw [hR2] at HST
        by_cases hbr : 4294967296 ≤ R2
        · have v1 : decide ((4294967296 : Int) ≤ (R2 : Int)) = true := decide_eq_true (by omega)
          have v2 : decide (4294967296 ≤ R2) = true := decide_eq_true hbr
          have he : P2 = D1 := by rw [← HD1.out]; exact kn_stop HST.out.2.1 HST.out.2.2.1 hvp (kn_big HST.out.2.2.2 hV0l hbr)
          clear hge hP2 hR2 hbr
          go_wp2_with fail
          go_meet
          exact ⟨by first | rfl | rw [he], rfl⟩
        · have v1 : decide ((4294967296 : Int) ≤ (R2 : Int)) = false := decide_eq_false (by omega)
          have v2 : decide (4294967296 ≤ R2) = false := decide_eq_false hbr
          have HK2 : Hid (Kn 4294967296 U 0 V1 V0 P2 R2) := Lib.hid ⟨HST.out.2.1, HST.out.2.2.1, by omega, by have := HST.out.2.2.2; omega⟩
          have hm1 : P2 < Q := by omega
          clear hge hP2 hR2 hbr
          go_wp2_with fail
          go_round
          case rel => exact ⟨P2, R2, rfl, rfl, HK2⟩
          case measure => simp [intOf]; omega
      · have u1 : decide ((4294967296 : Int) ≤ (Q : Int)) = false := decide_eq_false (by omega)
        have u2 : decide (4294967296 ≤ Q) = false := decide_eq_false hge
        obtain ⟨T, hT⟩ : ∃ T, Q * V0 = T := ⟨_, rfl⟩
        obtain ⟨B, hB⟩ : ∃ B, 4294967296 * R = B := ⟨_, rfl⟩
        have hTb : T ≤ 4294967295 * 4294967295 := by rw [← hT]; exact Nat.mul_le_mul (by omega) (by omega)
        have wT : IntKind.u64.wrap ((Q : Int) * (V0 : Int)) = (T : Int) := by rw [← Int.natCast_mul, hT]; exact IntWalk.u64_in _ (by omega)
        have wB : IntKind.u64.wrap (4294967296 * (R : Int)) = (B : Int) := by rw [show 4294967296 * (R : Int) = (B : Int) by omega]; exact IntWalk.u64_in _ (by omega)
        have wB0 : IntKind.u64.wrap (B : Int) = (B : Int) := IntWalk.u64_in _ (by omega)
        by_cases gt : B < T
        · have x1 : decide ((B : Int) < (T : Int)) = true := decide_eq_true (by omega)
          have x2 : decide (B < T) = true := decide_eq_true gt
          have HST := Lib.hid (kn_step HK.out hvp HUV.out (by decide) (Or.inr (by rw [hB, hT]; exact gt)))
          have hq1 := HST.out.1
          clear hT hB gt
          obtain ⟨P2, hP2⟩ : ∃ P, Q - 1 = P := ⟨_, rfl⟩
          rw [hP2] at HST
          obtain ⟨R2, hR2⟩ : ∃ P, R + V1 = P := ⟨_, rfl⟩
          have wP : IntKind.u64.wrap ((Q : Int) - 1) = (P2 : Int) := by rw [show (Q : Int) - 1 = (P2 : Int) by omega]; exact IntWalk.u64_in _ (by omega)
          have wR : IntKind.u64.wrap ((R : Int) + (V1 : Int)) = (R2 : Int) := by rw [show (R : Int) + (V1 : Int) = (R2 : Int) by omega]; exact IntWalk.u64_in _ (by omega)
          rw [hR2] at HST
          by_cases hbr : 4294967296 ≤ R2
          · have v1 : decide ((4294967296 : Int) ≤ (R2 : Int)) = true := decide_eq_true (by omega)
            have v2 : decide (4294967296 ≤ R2) = true := decide_eq_true hbr
            have he : P2 = D1 := by rw [← HD1.out]; exact kn_stop HST.out.2.1 HST.out.2.2.1 hvp (kn_big HST.out.2.2.2 hV0l hbr)
            clear hge hP2 hR2 hbr
            go_wp2_with fail
            go_meet
            exact ⟨by first | rfl | rw [he], rfl⟩
          · have v1 : decide ((4294967296 : Int) ≤ (R2 : Int)) = false := decide_eq_false (by omega)
            have v2 : decide (4294967296 ≤ R2) = false := decide_eq_false hbr
            have HK2 : Hid (Kn 4294967296 U 0 V1 V0 P2 R2) := Lib.hid ⟨HST.out.2.1, HST.out.2.2.1, by omega, by have := HST.out.2.2.2; omega⟩
            have hm1 : P2 < Q := by omega
            clear hge hP2 hR2 hbr
            go_wp2_with fail
            go_round
            case rel => exact ⟨P2, R2, rfl, rfl, HK2⟩
            case measure => simp [intOf]; omega
        · have x1 : decide ((B : Int) < (T : Int)) = false := decide_eq_false (by omega)
          have x2 : decide (B < T) = false := decide_eq_false gt
          have he : Hid (Q = D1) := Lib.hid (by rw [← HD1.out]; exact kn_stop HK.out.1 HK.out.2.1 hvp (by rw [hT, hB]; omega))
          clear hT hB gt hge hTb hRb hQb2
          go_wp2_with fail
          go_meet
          exact ⟨by rw [he.out], rfl⟩
  case rest =>
  obtain ⟨rfl, hw1⟩ := hcut
  obtain ⟨w1, hw2⟩ : ∃ w1, w1 = wc := ⟨_, rfl⟩
  rw [← hw2]
  have hw3 : w1 = w' := hw2.trans hw1
  have HW3 := Lib.hid hw3
  clear hw1 hw2 hw3
  obtain ⟨U2, hU2⟩ : ∃ U2, U * 4294967296 % N = U2 := ⟨_, rfl⟩
  have hU2N : U2 < N := by rw [← hU2]; exact Nat.mod_lt _ (by omega)
  have hdm := Nat.div_add_mod (U * 4294967296) N
  have hD1N : U * 4294967296 / N = D1 := by rw [HNV.out, ← HD1.out, Nat.add_zero]
  rw [hU2, hD1N] at hdm
  have wXY : IntKind.u64.wrap (IntKind.u64.wrap (IntKind.u64.wrap ((U : Int) * 4294967296)) - IntKind.u64.wrap ((D1 : Int) * (N : Int))) = (U2 : Int) := by
    rw [IntKind.wrap_u64, IntKind.wrap_u64, IntKind.wrap_u64, IntKind.wrap_u64, Int.emod_emod_of_dvd _ (Int.dvd_refl _), ← Int.sub_emod]
    have e : (U : Int) * 4294967296 - (D1 : Int) * (N : Int) = (U2 : Int) := by
      have h2 : ((U * 4294967296 : Nat) : Int) = ((N * D1 + U2 : Nat) : Int) := by rw [hdm]
      rw [Int.natCast_mul, Int.natCast_add, Int.natCast_mul, Int.mul_comm (N : Int)] at h2
      omega
    rw [e]
    omega
  obtain ⟨Q0, hQ0⟩ : ∃ Q, U2 / V1 = Q := ⟨_, rfl⟩
  obtain ⟨R0, hR0⟩ : ∃ Q, U2 % V1 = Q := ⟨_, rfl⟩
  have HUV0 : Hid (U2 < V1 * 4294967296 + V0) := Lib.hid (by rw [← HNV.out]; exact hU2N)
  have hKn := kn_start (b := 4294967296) (d := 0) (by omega) hV1l hV0l HUV0.out (by decide)
  rw [hQ0, hR0] at hKn
  have hQR : Q0 * V1 + R0 = U2 := hKn.1
  have hQb0 : Q0 ≤ 4294967297 := hKn.2.2.2
  have bT : (U2 : Int).tdiv (V1 : Int) = (Q0 : Int) := by rw [← hQ0, Int.ofNat_tdiv]
  have bT2 : (U2 : Int) / (V1 : Int) = (Q0 : Int) := by rw [← hQ0, Int.natCast_ediv]
  have wQ0 : IntKind.u64.wrap (Q0 : Int) = (Q0 : Int) := IntWalk.u64_in _ (by omega)
  have wM : IntKind.u64.wrap ((Q0 : Int) * (V1 : Int)) = (Q0 : Int) * (V1 : Int) := by rw [← Int.natCast_mul]; exact IntWalk.u64_in _ (by omega)
  have wR : IntKind.u64.wrap ((U2 : Int) - (Q0 : Int) * (V1 : Int)) = (R0 : Int) := by rw [← Int.natCast_mul, show (U2 : Int) - ((Q0 * V1 : Nat) : Int) = (R0 : Int) by omega]; exact IntWalk.u64_in _ (by omega)
  have HKN0 := Lib.hid hKn
  have HU2 := Lib.hid (And.intro hU2 hD1N)
  obtain ⟨D0, hD0⟩ : ∃ D, (U2 * 4294967296 + 0) / (V1 * 4294967296 + V0) = D := ⟨_, rfl⟩
  have HD0 := Lib.hid hD0
  have hD1b : D1 < 4294967296 := by rw [← HD1.out]; exact kn_lt hvp HUV.out (by decide)
  have hD0b : D0 < 4294967296 := by rw [← hD0]; exact kn_lt hvp HUV0.out (by decide)
  clear hU2 hD1N hdm hQ0 hR0 hKn hQR hD0
  go_upto_block 2 with fail
  clear wXY bT bT2 wQ0 wM wR
  go_cut [18] (fun q wx => q = .int .u64 D0 ∧ wx = w1)
  case first =>
    go_wp2_with fail
    go_loop [18, 16] (fun q r => ∃ Q R : Nat, q = .int .u64 Q ∧ r = .int .u64 R ∧ Hid (Kn 4294967296 U2 0 V1 V0 Q R)) (fun q _ => (intOf q).toNat)
    case atStart => exact ⟨Q0, R0, rfl, rfl, HKN0⟩
    case round =>
      obtain ⟨Q, R, rfl, rfl, HK⟩ := hrel
      have hRb := HK.out.2.2.1
      have hQb2 := HK.out.2.2.2
      by_cases hge : 4294967296 ≤ Q
      · have u1 : decide ((4294967296 : Int) ≤ (Q : Int)) = true := decide_eq_true (by omega)
        have u2 : decide (4294967296 ≤ Q) = true := decide_eq_true hge
        have HST := Lib.hid (kn_step HK.out hvp HUV0.out (by decide) (Or.inl hge))
        obtain ⟨P2, hP2⟩ : ∃ P, Q - 1 = P := ⟨_, rfl⟩
        rw [hP2] at HST
        obtain ⟨R2, hR2⟩ : ∃ P, R + V1 = P := ⟨_, rfl⟩
        have wP : IntKind.u64.wrap ((Q : Int) - 1) = (P2 : Int) := by rw [show (Q : Int) - 1 = (P2 : Int) by omega]; exact IntWalk.u64_in _ (by omega)
        have wR : IntKind.u64.wrap ((R : Int) + (V1 : Int)) = (R2 : Int) := by rw [show (R : Int) + (V1 : Int) = (R2 : Int) by omega]; exact IntWalk.u64_in _ (by omega)
        rw [hR2] at HST
        by_cases hbr : 4294967296 ≤ R2
        · have v1 : decide ((4294967296 : Int) ≤ (R2 : Int)) = true := decide_eq_true (by omega)
          have v2 : decide (4294967296 ≤ R2) = true := decide_eq_true hbr
          have he : P2 = D0 := by rw [← HD0.out]; exact kn_stop HST.out.2.1 HST.out.2.2.1 hvp (kn_big HST.out.2.2.2 hV0l hbr)
          clear hge hP2 hR2 hbr
          go_wp2_with fail
          go_meet
          exact ⟨by first | rfl | rw [he], rfl⟩
        · have v1 : decide ((4294967296 : Int) ≤ (R2 : Int)) = false := decide_eq_false (by omega)
          have v2 : decide (4294967296 ≤ R2) = false := decide_eq_false hbr
          have HK2 : Hid (Kn 4294967296 U2 0 V1 V0 P2 R2) := Lib.hid ⟨HST.out.2.1, HST.out.2.2.1, by omega, by have := HST.out.2.2.2; omega⟩
          have hm1 : P2 < Q := by omega
          clear hge hP2 hR2 hbr
          go_wp2_with fail
          go_round
          case rel => exact ⟨P2, R2, rfl, rfl, HK2⟩
          case measure => simp [intOf]; omega
      · have u1 : decide ((4294967296 : Int) ≤ (Q : Int)) = false := decide_eq_false (by omega)
        have u2 : decide (4294967296 ≤ Q) = false := decide_eq_false hge
        obtain ⟨T, hT⟩ : ∃ T, Q * V0 = T := ⟨_, rfl⟩
        obtain ⟨B, hB⟩ : ∃ B, 4294967296 * R = B := ⟨_, rfl⟩
        have hTb : T ≤ 4294967295 * 4294967295 := by rw [← hT]; exact Nat.mul_le_mul (by omega) (by omega)
        have wT : IntKind.u64.wrap ((Q : Int) * (V0 : Int)) = (T : Int) := by rw [← Int.natCast_mul, hT]; exact IntWalk.u64_in _ (by omega)
        have wB : IntKind.u64.wrap (4294967296 * (R : Int)) = (B : Int) := by rw [show 4294967296 * (R : Int) = (B : Int) by omega]; exact IntWalk.u64_in _ (by omega)
        have wB0 : IntKind.u64.wrap (B : Int) = (B : Int) := IntWalk.u64_in _ (by omega)
        by_cases gt : B < T
        · have x1 : decide ((B : Int) < (T : Int)) = true := decide_eq_true (by omega)
          have x2 : decide (B < T) = true := decide_eq_true gt
          have HST := Lib.hid (kn_step HK.out hvp HUV0.out (by decide) (Or.inr (by rw [hB, hT]; exact gt)))
          have hq1 := HST.out.1
          clear hT hB gt
          obtain ⟨P2, hP2⟩ : ∃ P, Q - 1 = P := ⟨_, rfl⟩
          rw [hP2] at HST
          obtain ⟨R2, hR2⟩ : ∃ P, R + V1 = P := ⟨_, rfl⟩
          have wP : IntKind.u64.wrap ((Q : Int) - 1) = (P2 : Int) := by rw [show (Q : Int) - 1 = (P2 : Int) by omega]; exact IntWalk.u64_in _ (by omega)
          have wR : IntKind.u64.wrap ((R : Int) + (V1 : Int)) = (R2 : Int) := by rw [show (R : Int) + (V1 : Int) = (R2 : Int) by omega]; exact IntWalk.u64_in _ (by omega)
          rw [hR2] at HST
          by_cases hbr : 4294967296 ≤ R2
          · have v1 : decide ((4294967296 : Int) ≤ (R2 : Int)) = true := decide_eq_true (by omega)
            have v2 : decide (4294967296 ≤ R2) = true := decide_eq_true hbr
            have he : P2 = D0 := by rw [← HD0.out]; exact kn_stop HST.out.2.1 HST.out.2.2.1 hvp (kn_big HST.out.2.2.2 hV0l hbr)
            clear hge hP2 hR2 hbr
            go_wp2_with fail
            go_meet
            exact ⟨by first | rfl | rw [he], rfl⟩
          · have v1 : decide ((4294967296 : Int) ≤ (R2 : Int)) = false := decide_eq_false (by omega)
            have v2 : decide (4294967296 ≤ R2) = false := decide_eq_false hbr
            have HK2 : Hid (Kn 4294967296 U2 0 V1 V0 P2 R2) := Lib.hid ⟨HST.out.2.1, HST.out.2.2.1, by omega, by have := HST.out.2.2.2; omega⟩
            have hm1 : P2 < Q := by omega
            clear hge hP2 hR2 hbr
            go_wp2_with fail
            go_round
            case rel => exact ⟨P2, R2, rfl, rfl, HK2⟩
            case measure => simp [intOf]; omega
        · have x1 : decide ((B : Int) < (T : Int)) = false := decide_eq_false (by omega)
          have x2 : decide (B < T) = false := decide_eq_false gt
          have he : Hid (Q = D0) := Lib.hid (by rw [← HD0.out]; exact kn_stop HK.out.1 HK.out.2.1 hvp (by rw [hT, hB]; omega))
          clear hT hB gt hge hTb hRb hQb2
          go_wp2_with fail
          go_meet
          exact ⟨by rw [he.out], rfl⟩
  case rest =>
  obtain ⟨rfl, hw1⟩ := hcut
  subst hw1
  have wD : IntKind.u64.wrap ((D1 : Int) * 4294967296) = (D1 : Int) * 4294967296 := IntWalk.u64_in _ (by omega)
  have wD2 : IntKind.u64.wrap ((D1 : Int) * 4294967296 + (D0 : Int)) = (D1 : Int) * 4294967296 + (D0 : Int) := IntWalk.u64_in _ (by omega)
  go_wp2_with fail
  refine bodyPost_ret (results_tmp2 rfl _ _ _) rfl ?_
  have hfin : a * 18446744073709551616 / y = D1 * 4294967296 + D0 := by
    have h1 := kn_two (b := 4294967296) (u := U) (v := N) (by omega)
    rw [HU2.out.1, HU2.out.2] at h1
    have h2 : U2 * 4294967296 / N = D0 := by rw [HNV.out, ← HD0.out, Nat.add_zero]
    rw [h2] at h1
    rw [h1, ← HNU.out.1, ← HNU.out.2, Nat.mul_assoc (a * P)]
    exact (div_shift (by rw [← HPP.out]; exact Nat.two_pow_pos _)).symm
  rw [hfin]
  refine ⟨.int .u64 (IntKind.u64.wrap (IntKind.u64.wrap (IntKind.u64.wrap ((U2 : Int) * 4294967296)) - IntKind.u64.wrap ((D0 : Int) * (N : Int))) / (P : Int)), ?_, HW3.out⟩
  rw [Int.natCast_add, Int.natCast_mul]
  first | rfl | (simp; done)
end Go.Proofs.Ytlfhcjhbnakamaa.Lst
/-
  Sieves: the walk of Guess.
-/
namespace Go.Proofs.Ytlfhcjhbnakamaa.Lst
open Go.RowKit Go.Gh Go.Proofs.Ytlfhcjhbnakamaa.Qs
set_option linter.unusedVariables false
set_option linter.unusedSimpArgs false
set_option maxHeartbeats 8000000 in
set_option maxRecDepth 100000 in
theorem guess_ok (v : Value) (s : Ls) (w : World) (hv : LsV w v s) (h0 : lsF s = 0) : Calls Try.prog 32 #[v] w fun e w' => e = .returned (.tuple #[.int .u64 (guessL s), .int .i64 0]) ∧ Below w.heap.size w w' := by
  have hck := fun W (hW : Below w.heap.size w W) => lcheck_any v s W (hv.below hW)
  rw [h0] at hck
  obtain ⟨t, rfl, hs, hz, hk1, hk2, hn9⟩ := hv
  obtain ⟨K, l⟩ := s
  obtain ⟨g1, g2, g3, hris⟩ := lsF_ok h0
  have g1 : 2 ≤ K := g1
  have g2 : K ≤ 64 := g2
  have g3 : (l.length : Int) ≤ K := g3
  have hs : Sl w 1 t l.length (l.map (Value.int .u64)) := hs
  have hz : ∀ z ∈ l, U64 z := hz
  clear hk1 hk2 hn9 h0 hris
  show Calls Try.prog 32 #[.agg #[.int .i64 K, t]] w _
  obtain ⟨k1, rfl⟩ : ∃ k1 : Nat, K = (k1 : Int) + 1 := ⟨K.toNat - 1, by omega⟩
  obtain ⟨n, hn⟩ : ∃ n, l.length = n := ⟨_, rfl⟩
  obtain ⟨G, hG⟩ : ∃ G, guessL ⟨(k1 : Int) + 1, l⟩ = G := ⟨_, rfl⟩
  rw [hG]
  have HG : Hid (G = if (n : Int) < (k1 : Int) + 1 then (n : Int) else if l.getD k1 0 = 18446744073709551615 then (k1 : Int) else if l.getD k1 0 + 1 ≤ (k1 : Int) then 18446744073709551615 else (k1 : Int) * 18446744073709551616 / (l.getD k1 0 + 1)) := Lib.hid (by
    rw [← hG, ← hn]
    unfold guessL
    simp only [show ((k1 : Int) + 1).toNat - 1 = k1 by omega, show (k1 : Int) + 1 - 1 = (k1 : Int) by omega])
  rw [hn] at hs g3
  obtain ⟨ao, c, rfl, hnc, hc, -⟩ := hs.shape
  have HN := Lib.hid hn
  obtain ⟨wa, hwa, hbox, hba, hsa⟩ := box_ls w (.int .i64 ((k1 : Int) + 1)) (.slice ao n c)
  have HS := Lib.hid (hs.below hba)
  have HWA := Lib.hid hwa
  have HBA := Lib.hid hba
  have HZ := Lib.hid hz
  have HCK : Hid (Calls Try.prog 35 #[.agg #[.int .i64 ((k1 : Int) + 1), .slice ao n c]] wa fun e w' => e = .returned (.int .i64 0) ∧ Below wa.heap.size wa w') := Lib.hid (hck wa hba)
  obtain ⟨⟨d0, d1⟩, -⟩ := bx2 hbox
  obtain ⟨bx, hbx⟩ : ∃ bx, w.heap.size = bx := ⟨_, rfl⟩
  rw [hbx] at d0 d1
  have HBE := Lib.hid hbx
  have wk : IntKind.i64.wrap ((k1 : Int) + 1 - 1) = (k1 : Int) := by rw [show (k1 : Int) + 1 - 1 = (k1 : Int) by omega]; exact IntWalk.i64_in _ (by omega)
  have wk2 : IntKind.u64.wrap (k1 : Int) = (k1 : Int) := IntWalk.u64_in _ (by omega)
  have wk3 : IntKind.u64.wrap ((k1 : Int) + 1 - 1) = (k1 : Int) := by rw [show (k1 : Int) + 1 - 1 = (k1 : Int) by omega]; exact wk2
  have hlx : bx < wa.heap.size := by rw [← hbx]; exact hsa
  clear hs hn hG hwa hba hsa hbox hbx hz hck
  go_enter Try.func32, Try.ntmps32
  go_upto_region 1 with (fail)
  rw [HBE.out, ← HWA.out]
  go_upto_region 2 with (go_at_call 35; refine HCK.out.mono ?_; rintro e w1 ⟨rfl, hb1⟩)
  have HS1 := Lib.hid (HS.out.below hb1)
  have HB1 := Lib.hid (HBA.out.trans (hb1.mono HBA.out.size))
  have d0 := (hb1.cell (p := ⟨bx, 0, none⟩) hlx).trans d0
  have d1 := (hb1.cell (p := ⟨bx, 1, none⟩) hlx).trans d1
  clear hb1
  by_cases c1 : (n : Int) < (k1 : Int) + 1
  · have hg : G = (n : Int) := by rw [HG.out]; exact if_pos c1
    subst hg
    have wn : IntKind.u64.wrap (n : Int) = (n : Int) := IntWalk.u64_in _ (by omega)
    go_wp2_with fail
    refine bodyPost_ret (results_tmp2 rfl _ _ _) rfl ?_
    exact ⟨rfl, HB1.out⟩
  obtain rfl : n = k1 + 1 := by omega
  have HG2 := Lib.hid (HG.out.trans (if_neg c1))
  clear HG
  obtain ⟨m, hm⟩ : ∃ m, l[k1]? = some m := ⟨_, List.getElem?_eq_getElem (by rw [HN.out]; omega)⟩
  obtain ⟨b, off, rfl, m0⟩ := sl_elU HS1.out hm (by omega)
  have hmU := HZ.out m (List.mem_of_getElem? hm)
  have hgd : l.getD k1 0 = m := by rw [List.getD_eq_getElem?_getD, hm]; rfl
  rw [hgd] at HG2
  obtain ⟨hm1, hm2⟩ := hmU
  have hk0 : (0 : Int) ≤ (k1 : Int) := by omega
  have hkn : (k1 : Int) < (k1 : Int) + 1 := by omega
  clear hm hgd
  by_cases c2 : m = 18446744073709551615
  · have hg : G = (k1 : Int) := by rw [HG2.out]; exact if_pos c2
    subst hg
    have t1 : (m == 18446744073709551615) = true := by rw [c2]; rfl
    have wM : IntKind.u64.wrap (m + 1) = 0 := by rw [c2, IntKind.wrap_u64]; rfl
    clear c2
    go_wp2_with fail
    refine bodyPost_ret (results_tmp2 rfl _ _ _) rfl ?_
    exact ⟨rfl, HB1.out⟩
  have HG3 := Lib.hid (HG2.out.trans (if_neg c2))
  have t1 : (m == 18446744073709551615) = false := by rw [beq_eq_false_iff_ne]; exact c2
  clear HG2
  obtain ⟨Y, hY⟩ : ∃ Y : Nat, m + 1 = (Y : Int) := ⟨(m + 1).toNat, by omega⟩
  have hY1 : 1 ≤ Y := by omega
  have hY2 : Y < 18446744073709551616 := by omega
  have wY : IntKind.u64.wrap (m + 1) = (Y : Int) := by rw [hY]; exact IntWalk.u64_in _ (by omega)
  have HG4 : Hid (G = if (Y : Int) ≤ (k1 : Int) then 18446744073709551615 else (k1 : Int) * 18446744073709551616 / (Y : Int)) := Lib.hid (by rw [HG3.out, hY])
  clear HG3 hY c2
  by_cases c3 : Y ≤ k1
  · have hg : G = 18446744073709551615 := by rw [HG4.out]; exact if_pos (by omega)
    subst hg
    have t2 : decide ((Y : Int) ≤ (k1 : Int)) = true := decide_eq_true (by omega)
    have t3 : decide (Y ≤ k1) = true := decide_eq_true c3
    go_wp2_with fail
    refine bodyPost_ret (results_tmp2 rfl _ _ _) rfl ?_
    exact ⟨rfl, HB1.out⟩
  have HG5 : Hid (G = (((k1 * 18446744073709551616 / Y : Nat) : Nat) : Int)) := Lib.hid (by
    rw [HG4.out, if_neg (by omega)]
    rw [Int.natCast_ediv, Int.natCast_mul]
    rfl)
  have t2 : decide ((Y : Int) ≤ (k1 : Int)) = false := decide_eq_false (by omega)
  have t3 : decide (Y ≤ k1) = false := decide_eq_false c3
  have ha0 : 0 < k1 := by omega
  have ha1 : k1 < Y := by omega
  have ha2 : k1 ≤ 63 := by omega
  have hbl := blen_pos 64 Y hY1 (by simpa using hY2)
  have hbl2 := Lib.bitLen_le Y 64 (by decide) (by simpa using hY2)
  obtain ⟨m2, hm2⟩ : ∃ m, Lib.bitLen Y = m + 1 := ⟨Lib.bitLen Y - 1, by have := hbl.1; unfold Lib.bitLen; omega⟩
  have hbl3 : 2 ^ m2 ≤ Y ∧ Y < 2 ^ (m2 + 1) := by
    have h1 := hbl.2
    rw [show Lib.bitLenAux 64 Y = m2 + 1 from hm2] at h1
    exact ⟨by simpa using h1.1, h1.2⟩
  have hdiv := fun w => div64_any k1 Y (63 - m2) w ha0 ha2 ha1 hY2 (by omega) (by
    have h1 := Nat.mul_le_mul_right (2 ^ (63 - m2)) hbl3.1
    rw [← Nat.pow_add, show m2 + (63 - m2) = 63 by omega] at h1
    exact h1) (by
    have h1 := Nat.mul_lt_mul_of_pos_right hbl3.2 (Nat.two_pow_pos (63 - m2))
    rw [← Nat.pow_add, show m2 + 1 + (63 - m2) = 64 by omega] at h1
    exact h1)
  have HDIV := Lib.hid hdiv
  have u1 : ((Y : Int) == 0) = false := by rw [beq_eq_false_iff_ne]; omega
  clear hdiv hbl hbl2 hm2 hbl3 HG4
  go_wp2_with (go_at_call 59; refine (HDIV.out _).mono ?_; rintro e w2 ⟨r, rfl, hw2⟩; have hw2 := hw2.symm; subst hw2)
  refine bodyPost_ret (results_tmp2 rfl _ _ _) rfl ?_
  rw [HG5.out]
  exact ⟨rfl, HB1.out⟩
set_option maxHeartbeats 4000000 in
set_option maxRecDepth 100000 in
theorem guess_bad (v : Value) (s : Ls) (w : World) (hv : LsV w v s) (h0 : lsF s ≠ 0) : Calls Try.prog 32 #[v] w fun e w' => e = .returned (.tuple #[.int .u64 0, .int .i64 (lsF s)]) ∧ Below w.heap.size w w' := by
  have hck := fun W (hW : Below w.heap.size w W) => lcheck_any v s W (hv.below hW)
  obtain ⟨F, hF⟩ : ∃ F, lsF s = F := ⟨_, rfl⟩
  rw [hF] at hck h0 ⊢
  obtain ⟨t, rfl, hs, -⟩ := hv
  obtain ⟨K, l⟩ := s
  obtain ⟨ao, c, rfl, hnc, hc, -⟩ := hs.shape
  obtain ⟨n, hn⟩ : ∃ n, l.length = n := ⟨_, rfl⟩
  have hck : ∀ W, Below w.heap.size w W → Calls Try.prog 35 #[.agg #[.int .i64 K, .slice ao l.length c]] W fun e w' => e = .returned (.int .i64 F) ∧ Below W.heap.size W w' := hck
  show Calls Try.prog 32 #[.agg #[.int .i64 K, .slice ao l.length c]] w _
  rw [hn] at hck ⊢
  obtain ⟨wa, hwa, hbox, hba, hsa⟩ := box_ls w (.int .i64 K) (.slice ao n c)
  have HCK := Lib.hid (hck wa hba)
  have HWA := Lib.hid hwa
  have HBA := Lib.hid hba
  obtain ⟨⟨d0, d1⟩, -⟩ := bx2 hbox
  have hne : (F != 0) = true := by rw [bne_iff_ne]; exact h0
  clear hck hF hs hn hwa hbox hba hnc hc h0
  go_enter Try.func32, Try.ntmps32
  go_upto_region 1 with (fail)
  rw [← HWA.out]
  go_wp2_with (go_at_call 35; refine HCK.out.mono ?_; rintro e w1 ⟨rfl, hb1⟩)
  refine bodyPost_ret (results_tmp2 rfl _ _ _) rfl ?_
  exact ⟨rfl, HBA.out.trans (hb1.mono HBA.out.size)⟩
end Go.Proofs.Ytlfhcjhbnakamaa.Lst
/-
  Sieves: an argument opened.
-/
namespace Go.Proofs.Ytlfhcjhbnakamaa.Lst
open Go.RowKit Go.Gh Go.WideShapes Go.ChangeShapes Go.ChangeAt Go.Joins
set_option linter.unusedVariables false
def IsLs (w : World) (v : Value) : Prop := ∃ s, LsV w v s
section
variable {H : Type} {enc : TypeId × Value → H} {W : World} {base b0 : Nat} {r : Reach} {spare : Nat → Bool} {held : Bool} {v : Value} {d : DataW H} {ps : List MemPlace}
set_option maxRecDepth 100000 in
theorem cellsLs : Try.prog.cellsOf 46 = 2 := by kernel_rfl
set_option maxRecDepth 100000 in
theorem isLs_of (hv : Value.okWide Try.prog W r b0 46 v) (hd : DataW.Trod enc Try.prog W base spare held 46 v d ps) (hs : ∀ n ∈ d.weights Try.prog 46, n ≤ reachBytes) : IsLs W v := by
  obtain ⟨v0, v1, y0, y1, n, rfl, rfl, rfl, h0, h1⟩ := open_agg2 Try.underlying46 (by kernel_rfl) cellsLs hv hd
  obtain ⟨K, hK, _, hKw⟩ := DataW.trod_int Try.underlying3 h0
  obtain rfl : v0 = .int .i64 K := by simpa using hK
  have hs2 : ∀ n ∈ y1.1.weights Try.prog 44, n ≤ reachBytes := by
    intro m hm
    refine hs m ?_
    unfold DataW.weights
    rw [Try.underlying46]
    exact DataW.weights_mem_each (j := 1) rfl rfl m hm
  obtain ⟨len, l, hsl, hwf, hlen⟩ := sl_ints Try.underlying44 Try.underlying22 (by kernel_rfl) h1 hs2
  obtain ⟨_, _, _, _, _, hll⟩ := hsl.shape
  have hl : l.length = len := by simpa using hll
  subst hl
  exact ⟨⟨K, l⟩, v1, rfl, hsl, fun z hz => wf_u64 (hwf z hz), (wf_i64 hKw).1, (wf_i64 hKw).2, reach_le hlen (of_decide_eq_true (by kernel_rfl))⟩
end
end Go.Proofs.Ytlfhcjhbnakamaa.Lst
