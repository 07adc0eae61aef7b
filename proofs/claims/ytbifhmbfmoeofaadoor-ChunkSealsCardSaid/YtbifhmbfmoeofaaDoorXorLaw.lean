/-
  Measures as bits, as a plain function: noughts ahead and behind.
-/
import Derived.WalkKit
import Derived.Lib.TrailingZeros
import Derived.Test.YtbifhmbfmoeofaaDoorBitsLaw3
namespace Go.Gh
open Go.RowKit
set_option linter.unusedVariables false

def runF : List Bool → Nat
  | [] => 0
  | b :: s => if b then 0 else runF s + 1
theorem runF_le (s : List Bool) : runF s ≤ s.length := by
  induction s with
  | nil => simp [runF]
  | cons b s ih => rw [runF]; split <;> simp <;> omega
theorem runF_step (s : List Bool) : ∀ k, k < s.length → k ≤ runF s → if s.getD k false then runF s = k else k + 1 ≤ runF s := by
  induction s with
  | nil => intro k h; simp at h
  | cons b s ih =>
    intro k h hr
    cases k with
    | zero =>
      cases b
      · simp [runF]
      · simp [runF]
    | succ k =>
      cases b
      · have := ih k (by simpa using h) (by simpa [runF] using hr)
        simp only [List.getD_cons_succ, runF]
        simp only [Bool.false_eq_true, if_false] at *
        split at this <;> simp_all
      · simp [runF] at hr
theorem runF_end {s : List Bool} (h : s.length ≤ runF s) : runF s = s.length := Nat.le_antisymm (runF_le s) h

/-- L bits and no fewer. -/
def IsLen (x L : Nat) : Prop := x < 2 ^ L ∧ (L = 0 ∨ 2 ^ (L - 1) ≤ x)
theorem isLen_shift {x k L : Nat} (hx : 2 ^ k ≤ x) (h : IsLen (x / 2 ^ k) L) : IsLen x (k + L) := by
  have hp : 0 < 2 ^ k := Nat.two_pow_pos k
  have h1 : 1 ≤ x / 2 ^ k := (Nat.le_div_iff_mul_le hp).2 (by omega)
  obtain ⟨ha, hb⟩ := h
  have hL : L ≠ 0 := by rintro rfl; simp at ha; omega
  refine ⟨?_, Or.inr ?_⟩
  · rw [Nat.pow_add, Nat.mul_comm]
    exact (Nat.div_lt_iff_lt_mul hp).1 ha
  · have h2 : 2 ^ (L - 1) ≤ x / 2 ^ k := by omega
    rw [show k + L - 1 = (L - 1) + k by omega, Nat.pow_add]
    exact (Nat.le_div_iff_mul_le hp).1 h2
theorem bitI_top {x n : Nat} (h : x < 2 ^ (n + 1)) : bitI (x : Int) n = decide (2 ^ n ≤ x) := by
  unfold bitI
  rw [two_pow_cast, ← Int.natCast_ediv]
  rw [Nat.pow_succ] at h
  by_cases hx : 2 ^ n ≤ x
  · have : x / 2 ^ n = 1 := by
      have h1 : 1 ≤ x / 2 ^ n := (Nat.le_div_iff_mul_le (Nat.two_pow_pos n)).2 (by omega)
      have h2 : x / 2 ^ n < 2 := (Nat.div_lt_iff_lt_mul (Nat.two_pow_pos n)).2 (by omega)
      omega
    rw [this]; simp [hx]
  · have : x / 2 ^ n = 0 := Nat.div_eq_of_lt (by omega)
    rw [this]; simp [hx]
theorem lead_len {x L : Nat} (h : IsLen x L) : ∀ n, L ≤ n → runF (signs (x : Int) n) = n - L := by
  intro n
  induction n with
  | zero => intro hL; simp [signs, runF]
  | succ n ih =>
    intro hL
    have hlt : x < 2 ^ (n + 1) := Nat.lt_of_lt_of_le h.1 (Nat.pow_le_pow_right (by decide) hL)
    rw [signs, runF, bitI_top hlt]
    by_cases he : L = n + 1
    · have : 2 ^ n ≤ x := by
        rcases h.2 with h2 | h2
        · omega
        · rw [he] at h2; simpa using h2
      simp [this, he]
    · have : ¬ 2 ^ n ≤ x := by
        have := Nat.lt_of_lt_of_le h.1 (Nat.pow_le_pow_right (show 0 < 2 by decide) (show L ≤ n by omega))
        omega
      simp only [this, decide_false, Bool.false_eq_true, if_false]
      rw [ih (by omega)]
      omega
theorem tail_ctz : ∀ (n x : Nat), runF (signs (x : Int) n).reverse = Lib.ctzFrom n x := by
  intro n
  induction n with
  | zero => intro x; rfl
  | succ n ih =>
    intro x
    rw [signs_half, List.reverse_append, List.reverse_cons, List.reverse_nil, List.nil_append, List.singleton_append, runF, Lib.ctzFrom]
    have e : (x : Int) / 2 = ((x / 2 : Nat) : Int) := by omega
    rw [e, ih (x / 2)]
    have hb : bitI (x : Int) 0 = decide (x % 2 = 1) := by
      unfold bitI
      rw [Int.pow_zero, Int.ediv_one]
      rcases (show x % 2 = 0 ∨ x % 2 = 1 by omega) with h | h
      · have : (x : Int) % 2 = 0 := by omega
        rw [this, h]; rfl
      · have : (x : Int) % 2 = 1 := by omega
        rw [this, h]; rfl
    rw [hb]
    by_cases hx : x % 2 = 1
    · simp [hx]
    · simp [hx]; omega
theorem bitI_down (v : Int) (b i : Nat) : bitI (v / 2 ^ b) i = bitI v (i + b) := by
  unfold bitI
  rw [Int.ediv_ediv_of_nonneg (Int.le_of_lt (two_pow_pos b)), Nat.add_comm, ← Int.pow_add]
theorem mid_signs (v : Int) (n a b : Nat) (h : a + b ≤ n) : ((signs v n).drop a).take (n - b - a) = signs (v / 2 ^ b) (n - a - b) := by
  apply List.ext_getElem?
  intro k
  by_cases hk : k < n - a - b
  · have h1 : (((signs v n).drop a).take (n - b - a)).length = n - a - b := by rw [List.length_take, List.length_drop, signs_len]; omega
    have e1 : (((signs v n).drop a).take (n - b - a)).getD k false = bitI v (n - 1 - (a + k)) := by
      rw [List.getD_eq_getElem?_getD, List.getElem?_take, if_pos (by omega), List.getElem?_drop, ← List.getD_eq_getElem?_getD, signs_get _ _ _ (by omega)]
    have e2 : (signs (v / 2 ^ b) (n - a - b)).getD k false = bitI v (n - 1 - (a + k)) := by
      rw [signs_get _ _ _ hk, bitI_down]
      congr 1; omega
    have l1 : k < (((signs v n).drop a).take (n - b - a)).length := by omega
    have l2 : k < (signs (v / 2 ^ b) (n - a - b)).length := by rw [signs_len]; exact hk
    rw [List.getD_eq_getElem?_getD, List.getElem?_eq_getElem l1] at e1
    rw [List.getD_eq_getElem?_getD, List.getElem?_eq_getElem l2] at e2
    rw [List.getElem?_eq_getElem l1, List.getElem?_eq_getElem l2]
    simp only [Option.getD_some] at e1 e2
    rw [e1, e2]
  · rw [List.getElem?_eq_none (by rw [List.length_take, List.length_drop, signs_len]; omega), List.getElem?_eq_none (by rw [signs_len]; omega)]

def leadF (T : Int) : Nat := runF (signs T 64)
def tailF (T : Int) : Nat := runF (signs T 64).reverse
theorem leadF_le (T : Int) : leadF T ≤ 64 := by have := runF_le (signs T 64); rwa [signs_len] at this
theorem lead_nat {x L : Nat} (h : IsLen x L) (hL : L ≤ 64) : leadF (x : Int) = 64 - L := lead_len h 64 hL
theorem tail_nat {x : Nat} (hx : x ≠ 0) : tailF (x : Int) = Lib.ctz 64 x := by
  unfold tailF Lib.ctz
  rw [if_neg hx, tail_ctz]
theorem lead_zero : leadF 0 = 64 := by decide
/-- A number that is not nought: its noughts ahead and behind leave a bit. -/
theorem lead_tail {x : Nat} (hx : x ≠ 0) (hb : x < 18446744073709551616) : leadF (x : Int) + tailF (x : Int) ≤ 63 := by
  obtain ⟨m, hm, hk⟩ := Lib.ctzFrom_spec 64 x (by omega) hb
  have ht : tailF (x : Int) = Lib.ctzFrom 64 x := tail_ctz 64 x
  generalize Lib.ctzFrom 64 x = k at *
  have hl : IsLen x (x.log2 + 1) := by
    refine ⟨Nat.lt_log2_self, Or.inr ?_⟩
    exact Nat.log2_self_le hx
  have h64 : x.log2 + 1 ≤ 64 := by
    have := (Nat.log2_lt hx).2 (show x < 2 ^ 64 from hb)
    omega
  rw [ht, lead_nat hl h64]
  have h1 : 2 ^ k ≤ x := by rw [hm]; exact Nat.le_mul_of_pos_right _ (by omega)
  have := (Nat.le_log2 hx).2 h1
  omega

/-- What is written of a turn. -/
def midB (T : Int) (a b : Nat) : List Bool := signs (T / 2 ^ b) (64 - a - b)
def putX (s : List Bool) (ld tl : Int) (T : Int) : List Bool × Int × Int :=
  if T = 0 then (s ++ [false], ld, tl)
  else if 0 ≤ ld ∧ ld ≤ leadF T ∧ tl ≤ tailF T then (s ++ [true, false] ++ midB T ld.toNat tl.toNat, ld, tl)
  else (s ++ [true, true] ++ signs (leadF T) 6 ++ signs (63 - leadF T - tailF T) 6 ++ midB T (leadF T) (tailF T), (leadF T : Int), (tailF T : Int))
def xorI (x y : Int) : Int := bits .xor .u64 x y
def msTo (l : List Int) : Nat → List Bool × Int × Int
  | 0 => (signs l.length 16, -1, -1)
  | 1 => (signs l.length 16 ++ signs (l.getD 0 0) 64, -1, -1)
  | k + 2 => putX (msTo l (k + 1)).1 (msTo l (k + 1)).2.1 (msTo l (k + 1)).2.2 (xorI (l.getD (k + 1) 0) (l.getD k 0))
theorem ms_zero (l : List Int) : msTo l 0 = (signs l.length 16, -1, -1) := rfl
theorem ms_first (l : List Int) : msTo l 1 = (signs l.length 16 ++ signs (l.getD 0 0) 64, -1, -1) := rfl
theorem ms_next (l : List Int) (k : Nat) : msTo l (k + 1 + 1) = putX (msTo l (k + 1)).1 (msTo l (k + 1)).2.1 (msTo l (k + 1)).2.2 (xorI (l.getD (k + 1) 0) (l.getD k 0)) := rfl
theorem putX_len (s : List Bool) (ld tl T : Int) : (putX s ld tl T).1.length ≤ s.length + 78 := by
  unfold putX
  split
  · simp
  · split
    · simp [midB, signs_len]; omega
    · simp [midB, signs_len]; omega
theorem ms_len (l : List Int) : ∀ k, (msTo l k).1.length ≤ 80 + 78 * k
  | 0 => by rw [ms_zero, signs_len]; omega
  | 1 => by rw [ms_first]; simp [signs_len]
  | k + 2 => by
    rw [ms_next]
    have h1 := ms_len l (k + 1)
    have h2 := putX_len (msTo l (k + 1)).1 (msTo l (k + 1)).2.1 (msTo l (k + 1)).2.2 (xorI (l.getD (k + 1) 0) (l.getD k 0))
    omega
/-- A window, or none yet. -/
def winOk (ld tl : Int) : Prop := (ld = -1 ∧ tl = -1) ∨ (0 ≤ ld ∧ 0 ≤ tl ∧ ld + tl ≤ 63)
theorem putX_win {s : List Bool} {ld tl T : Int} (h : winOk ld tl) (h0 : 0 ≤ T) (h1 : T < 18446744073709551616) : winOk (putX s ld tl T).2.1 (putX s ld tl T).2.2 := by
  unfold putX
  split
  · exact h
  · rename_i hT
    split
    · exact h
    · obtain ⟨x, rfl⟩ := Int.eq_ofNat_of_zero_le h0
      have := lead_tail (x := x) (by omega) (by omega)
      right
      simp only
      omega
end Go.Gh
