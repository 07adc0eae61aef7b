/-
  Two lists in the order of their keys: merged, and inserted one by one, come to the same.
-/
import Derived.Test.YtcljeedmiobepaaRollLaw
namespace Go.Gh
set_option linter.unusedVariables false
section
variable {α : Type} (k : α → Int) (both : α → α → α)
def mrgG : List α → List α → List α
  | [], b => b
  | x :: a, [] => x :: a
  | x :: a, y :: b => if k x < k y then x :: mrgG a (y :: b) else if k y < k x then y :: mrgG (x :: a) b else both x y :: mrgG a b
termination_by a b => a.length + b.length
def insG : List α → α → List α
  | [], y => [y]
  | o :: out, y => if k o < k y then o :: insG out y else if k o = k y then both o y :: out else y :: o :: out
def besG (out : List α) : List α → List α
  | [] => out
  | y :: b => besG (insG k both out y) b
end
section
variable {α : Type} {k : α → Int} {both : α → α → α}
theorem mrgG_nil (a : List α) : mrgG k both a [] = a := by cases a <;> rw [mrgG]
theorem mrgG_nil' (b : List α) : mrgG k both [] b = b := by rw [mrgG]
theorem mrgG_lt {x y : α} {a b : List α} (h : k x < k y) : mrgG k both (x :: a) (y :: b) = x :: mrgG k both a (y :: b) := by rw [mrgG, if_pos h]
theorem mrgG_gt {x y : α} {a b : List α} (h : k y < k x) : mrgG k both (x :: a) (y :: b) = y :: mrgG k both (x :: a) b := by rw [mrgG, if_neg (by omega), if_pos h]
theorem mrgG_eq {x y : α} {a b : List α} (h : k x = k y) : mrgG k both (x :: a) (y :: b) = both x y :: mrgG k both a b := by rw [mrgG, if_neg (by omega), if_neg (by omega)]
theorem mrgG_len (n : Nat) : ∀ (a b : List α), a.length + b.length ≤ n → (mrgG k both a b).length ≤ a.length + b.length := by
  induction n with
  | zero =>
    intro a b hn
    obtain rfl : a = [] := List.length_eq_zero_iff.1 (by omega)
    rw [mrgG_nil']
    omega
  | succ n ih =>
    intro a b hn
    match a, b with
    | [], b => rw [mrgG_nil']; omega
    | x :: a, [] => rw [mrgG_nil]; omega
    | x :: a, y :: b =>
      rw [List.length_cons, List.length_cons] at hn
      rw [mrgG]
      split
      · have := ih a (y :: b) (by rw [List.length_cons]; omega)
        simp only [List.length_cons] at this ⊢
        omega
      · split
        · have := ih (x :: a) b (by rw [List.length_cons]; omega)
          simp only [List.length_cons] at this ⊢
          omega
        · have := ih a b (by omega)
          simp only [List.length_cons] at this ⊢
          omega
theorem besG_front (b : List α) : ∀ (x : α) (a : List α), (∀ z ∈ b, k x < k z) → besG k both (x :: a) b = x :: besG k both a b := by
  induction b with
  | nil => intro x a _; rfl
  | cons y b ih =>
    intro x a h
    rw [besG, besG, insG, if_pos (h y (by simp))]
    exact ih _ _ fun z hz => h z (by simp [hz])
def AscG (k : α → Int) (l : List α) : Prop := l.Pairwise fun x y => k x < k y
theorem besG_nil (b : List α) (h : AscG k b) : besG k both [] b = b := by
  induction b with
  | nil => rfl
  | cons y b ih =>
    have h' := List.pairwise_cons.1 h
    rw [besG, insG, besG_front b y [] h'.1, ih h'.2]
theorem bes_mrg (hk : ∀ x y, k x = k y → k (both x y) = k x) (n : Nat) : ∀ (a b : List α), a.length + b.length ≤ n → AscG k a → AscG k b → besG k both a b = mrgG k both a b := by
  induction n with
  | zero =>
    intro a b hn _ _
    obtain rfl : a = [] := List.length_eq_zero_iff.1 (by omega)
    obtain rfl : b = [] := List.length_eq_zero_iff.1 (by omega)
    rw [mrgG_nil]; rfl
  | succ n ih =>
    intro a b hn ha hb
    match a, b with
    | [], b => rw [mrgG_nil', besG_nil b hb]
    | x :: a, [] => rw [mrgG_nil]; rfl
    | x :: a, y :: b =>
      have ha' := List.pairwise_cons.1 ha
      have hb' := List.pairwise_cons.1 hb
      rw [List.length_cons, List.length_cons] at hn
      rcases Int.lt_trichotomy (k x) (k y) with h | h | h
      · have hall : ∀ z ∈ y :: b, k x < k z := by
          intro z hz
          rcases List.mem_cons.1 hz with h' | h'
          · rw [h']; exact h
          · have := hb'.1 z h'; omega
        rw [mrgG_lt h, besG_front _ x a hall, ih a (y :: b) (by rw [List.length_cons]; omega) ha'.2 hb]
      · have hall : ∀ z ∈ b, k (both x y) < k z := by
          intro z hz; rw [hk x y h]; have := hb'.1 z hz; omega
        rw [besG, insG, if_neg (by omega), if_pos h, besG_front b _ a hall, mrgG_eq h, ih a b (by omega) ha'.2 hb'.2]
      · have hall : ∀ z ∈ b, k y < k z := hb'.1
        rw [besG, insG, if_neg (by omega), if_neg (by omega), besG_front b y (x :: a) hall, mrgG_gt h, ih (x :: a) b (by rw [List.length_cons]; omega) ha hb'.2]
theorem insG_at (p : List α) : ∀ (q : List α) (y : α), (∀ o ∈ p, k o < k y) → (∀ o r, q = o :: r → ¬ k o < k y) → insG k both (p ++ q) y = p ++ (match q with | [] => [y] | o :: r => if k o = k y then both o y :: r else y :: o :: r) := by
  induction p with
  | nil =>
    intro q y _ hq
    cases q with
    | nil => rfl
    | cons o r => rw [List.nil_append, List.nil_append, insG, if_neg (hq o r rfl)]
  | cons x p ih =>
    intro q y hp hq
    rw [List.cons_append, insG, if_pos (hp x (by simp)), ih q y (fun o ho => hp o (by simp [ho])) hq]
    rfl
/-- How far an insertion has come: the first i are ahead. -/
def AheadG (k : α → Int) (acc : List α) (y : α) (i : Nat) : Prop := i ≤ acc.length ∧ ∀ o ∈ acc.take i, k o < k y
theorem AheadG.zero (acc : List α) (y : α) : AheadG k acc y 0 := ⟨Nat.zero_le _, fun o ho => by simp at ho⟩
theorem AheadG.succ {acc : List α} {y x : α} {i : Nat} (h : AheadG k acc y i) (hx : acc[i]? = some x) (hlt : k x < k y) : AheadG k acc y (i + 1) := by
  have hi : i < acc.length := (List.getElem?_eq_some_iff.1 hx).1
  have hxe : acc[i] = x := (List.getElem?_eq_some_iff.1 hx).2
  refine ⟨hi, fun o ho => ?_⟩
  rw [List.take_succ_eq_append_getElem hi, hxe] at ho
  rcases List.mem_append.1 ho with h' | h'
  · exact h.2 o h'
  · have : o = x := by simpa using h'
    rw [this]; exact hlt
theorem insG_end {acc : List α} {y : α} {i : Nat} (h : AheadG k acc y i) (hi : i = acc.length) : insG k both acc y = acc ++ [y] := by
  have h2 : ∀ o ∈ acc, k o < k y := by
    have := h.2
    rwa [hi, List.take_of_length_le (Nat.le_refl _)] at this
  have := insG_at (both := both) acc [] y h2 (fun o r ho => by simp at ho)
  rwa [List.append_nil] at this
theorem insG_mid {acc : List α} {y x : α} {i : Nat} (h : AheadG k acc y i) (hx : acc[i]? = some x) (hge : ¬ k x < k y) : insG k both acc y = if k x = k y then acc.set i (both x y) else acc.take i ++ y :: acc.drop i := by
  have hi : i < acc.length := (List.getElem?_eq_some_iff.1 hx).1
  have hxe : acc[i] = x := (List.getElem?_eq_some_iff.1 hx).2
  have hsplit : acc = acc.take i ++ x :: acc.drop (i + 1) := by
    rw [← hxe, ← List.drop_eq_getElem_cons hi, List.take_append_drop]
  have := insG_at (both := both) (acc.take i) (x :: acc.drop (i + 1)) y h.2 (fun o r ho => by injection ho with h1 _; rw [← h1]; exact hge)
  rw [← hsplit] at this
  rw [this]
  by_cases he : k x = k y
  · rw [if_pos he, List.set_eq_take_append_cons_drop, if_pos hi]
    simp only [if_pos he]
  · rw [if_neg he]
    simp only [if_neg he]
    rw [← hxe, ← List.drop_eq_getElem_cons hi]
theorem besG_snoc (b : List α) (y : α) : ∀ out : List α, besG k both out (b ++ [y]) = insG k both (besG k both out b) y := by
  induction b with
  | nil => intro out; rfl
  | cons x b ih => intro out; rw [List.cons_append, besG, besG, ih]
theorem insG_len (out : List α) (y : α) : (insG k both out y).length ≤ out.length + 1 := by
  induction out with
  | nil => simp [insG]
  | cons o out ih =>
    rw [insG]
    split
    · simpa using ih
    · split <;> simp
theorem besG_len (b : List α) : ∀ out : List α, (besG k both out b).length ≤ out.length + b.length := by
  induction b with
  | nil => intro out; exact Nat.le_refl _
  | cons y b ih =>
    intro out
    rw [besG]
    have h1 := ih (insG k both out y)
    have h2 := insG_len (k := k) (both := both) out y
    rw [List.length_cons]
    omega
end
end Go.Gh
