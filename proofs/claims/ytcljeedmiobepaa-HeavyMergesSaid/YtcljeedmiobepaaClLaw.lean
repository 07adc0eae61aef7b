/-
  Claims: as plain functions.
-/
import Derived.Test.YtcljeedmiobepaaBesLaw
namespace Go.Gh
open Go.RowKit
set_option linter.unusedVariables false
/-- A number for a name: it rises as names do. -/
def keyL : Nat → List UInt8 → Int
  | 0, _ => 0
  | _ + 1, [] => 0
  | f + 1, b :: bs => ((b.toNat : Int) + 1) * 257 ^ f + keyL f bs
theorem keyL_bd : ∀ (f : Nat) (l : List UInt8), 0 ≤ keyL f l ∧ keyL f l < 257 ^ f
  | 0, l => by simp [keyL]
  | f + 1, [] => by
    simp only [keyL]
    exact ⟨Int.le_refl _, Int.pow_pos (by decide)⟩
  | f + 1, b :: bs => by
    have h := keyL_bd f bs
    have hb : b.toNat < 256 := b.toNat_lt
    have hp : (0 : Int) < 257 ^ f := Int.pow_pos (by decide)
    simp only [keyL]
    rw [Int.pow_succ]
    have h1 : 0 ≤ ((b.toNat : Int) + 1) * 257 ^ f := Int.mul_nonneg (by omega) (by omega)
    have h2 : ((b.toNat : Int) + 1) * 257 ^ f ≤ 256 * 257 ^ f := Int.mul_le_mul_of_nonneg_right (by omega) (by omega)
    have h3 : (256 : Int) * 257 ^ f + 257 ^ f = 257 ^ f * 257 := by rw [Int.mul_comm (257 ^ f)]; omega
    omega
theorem keyL_pos (f : Nat) (b : UInt8) (bs : List UInt8) : 0 < keyL (f + 1) (b :: bs) := by
  have h := keyL_bd f bs
  have hp : (0 : Int) < 257 ^ f := Int.pow_pos (by decide)
  have h1 : 1 * 257 ^ f ≤ ((b.toNat : Int) + 1) * 257 ^ f := Int.mul_le_mul_of_nonneg_right (by omega) (by omega)
  simp only [keyL]
  omega
theorem key_step {f : Nat} {a b : UInt8} {x y : List UInt8} (h : a < b) : keyL (f + 1) (a :: x) < keyL (f + 1) (b :: y) := by
  have h1 := keyL_bd f x
  have h2 := keyL_bd f y
  have hab : a.toNat < b.toNat := h
  have hp : (0 : Int) < 257 ^ f := Int.pow_pos (by decide)
  have h3 : (((a.toNat : Int) + 1) + 1) * 257 ^ f ≤ ((b.toNat : Int) + 1) * 257 ^ f := Int.mul_le_mul_of_nonneg_right (by omega) (by omega)
  rw [Int.add_mul ((a.toNat : Int) + 1) 1] at h3
  simp only [keyL]
  omega
theorem key_less : ∀ (f : Nat) (x y : List UInt8), x.length ≤ f → y.length ≤ f → Op.bytesLess x y = decide (keyL f x < keyL f y)
  | 0, [], [], _, _ => rfl
  | f + 1, [], [], _, _ => by simp [Op.bytesLess]
  | f + 1, a :: x, [], _, _ => by
    have := keyL_pos f a x
    simp only [Op.bytesLess]
    rw [decide_eq_false]
    simp only [keyL] at this ⊢
    omega
  | f + 1, [], b :: y, _, _ => by
    have := keyL_pos f b y
    simp only [Op.bytesLess]
    rw [decide_eq_true]
    simp only [keyL] at this ⊢
    omega
  | f + 1, a :: x, b :: y, hx, hy => by
    have ih := key_less f x y (by simpa using hx) (by simpa using hy)
    simp only [Op.bytesLess, ih]
    rcases (show a < b ∨ a = b ∨ b < a from by
      rcases Nat.lt_trichotomy a.toNat b.toNat with h | h | h
      · exact Or.inl h
      · exact Or.inr (Or.inl (UInt8.toNat_inj.1 h))
      · exact Or.inr (Or.inr h)) with h | h | h
    · rw [decide_eq_true h, decide_eq_true (key_step h)]
      rfl
    · subst h
      have hn : ¬ a < a := Nat.lt_irrefl _
      rw [decide_eq_false hn]
      have e : (keyL (f + 1) (a :: x) < keyL (f + 1) (a :: y)) ↔ (keyL f x < keyL f y) := by simp only [keyL]; omega
      have e2 : decide (keyL (f + 1) (a :: x) < keyL (f + 1) (a :: y)) = decide (keyL f x < keyL f y) := decide_eq_decide.2 e
      rw [e2]
      simp only [beq_self_eq_true, Bool.true_and, Bool.false_or]
    · have hn : ¬ a < b := Nat.lt_asymm h
      have hne : (a == b) = false := by
        rw [beq_eq_false_iff_ne]
        rintro rfl
        exact hn h
      have := key_step (f := f) (x := y) (y := x) h
      rw [decide_eq_false hn, hne, decide_eq_false (p := keyL (f + 1) (a :: x) < keyL (f + 1) (b :: y)) (by omega)]
      rfl
theorem key_same : ∀ (f : Nat) (x y : List UInt8), x.length ≤ f → y.length ≤ f → keyL f x = keyL f y → x = y
  | 0, [], [], _, _, _ => rfl
  | f + 1, [], [], _, _, _ => rfl
  | f + 1, a :: x, [], _, _, h => by
    have := keyL_pos f a x
    rw [h] at this
    simp [keyL] at this
  | f + 1, [], b :: y, _, _, h => by
    have := keyL_pos f b y
    rw [← h] at this
    simp [keyL] at this
  | f + 1, a :: x, b :: y, hx, hy, h => by
    rcases (show a < b ∨ a = b ∨ b < a from by
      rcases Nat.lt_trichotomy a.toNat b.toNat with h | h | h
      · exact Or.inl h
      · exact Or.inr (Or.inl (UInt8.toNat_inj.1 h))
      · exact Or.inr (Or.inr h)) with h2 | h2 | h2
    · have := key_step (f := f) (x := x) (y := y) h2
      omega
    · subst h2
      simp only [keyL] at h
      rw [key_same f x y (by simpa using hx) (by simpa using hy) (by omega)]
    · have := key_step (f := f) (x := y) (y := x) h2
      omega
def keyS (s : ByteArray) : Int := keyL 20 s.data.toList
theorem keyS_less {s t : ByteArray} (hs : s.size ≤ 20) (ht : t.size ≤ 20) : Op.bytesLess s.toList t.toList = decide (keyS s < keyS t) := by
  rw [ByteArray.toList_eq, ByteArray.toList_eq]
  exact key_less 20 _ _ (by simpa using hs) (by simpa using ht)
theorem keyS_same {s t : ByteArray} (hs : s.size ≤ 20) (ht : t.size ≤ 20) : (s.toList == t.toList) = decide (keyS s = keyS t) := by
  rw [ByteArray.toList_eq, ByteArray.toList_eq]
  by_cases h : keyS s = keyS t
  · rw [decide_eq_true h, beq_iff_eq]
    exact key_same 20 _ _ (by simpa using hs) (by simpa using ht) h
  · rw [decide_eq_false h, beq_eq_false_iff_ne]
    intro he
    exact h (by unfold keyS; rw [he])
structure Cl where
  ver : Int
  st : Int
  nm : ByteArray
  tk : List Int
def AscT (l : List Int) : Prop := ∀ i, i + 1 < l.length → l.getD i 0 < l.getD (i + 1) 0
open Classical in
noncomputable def nodeF (nm : ByteArray) (tk : List Int) : Int := if nm.size < 1 ∨ 20 < nm.size then 4 else if 20 < tk.length then 2 else if AscT tk then 0 else 5
open Classical in
noncomputable def goF : Option Cl → List Cl → Int
  | _, [] => 0
  | p, c :: L => if nodeF c.nm c.tk ≠ 0 then nodeF c.nm c.tk else if (∃ q, p = some q ∧ keyS c.nm ≤ keyS q.nm) then 5 else if c.ver < 0 ∨ c.st < 1 ∨ 4 < c.st then 4 else goF (some c) L
noncomputable def claimsF (L : List Cl) : Int := if 20 < L.length then 2 else goF none L
def cmpT : List Int → List Int → Int
  | [], [] => 0
  | [], _ :: _ => -1
  | _ :: _, [] => 1
  | a :: x, b :: y => if a < b then -1 else if b < a then 1 else cmpT x y
def cmpI (a b : Int) : Int := if a < b then -1 else if b < a then 1 else 0
def cmpC (a b : Cl) : Int := if cmpI a.ver b.ver ≠ 0 then cmpI a.ver b.ver else if cmpI a.st b.st ≠ 0 then cmpI a.st b.st else cmpT a.tk b.tk
def newerC (a b : Cl) : Bool := decide (0 < cmpC a b)
end Go.Gh
