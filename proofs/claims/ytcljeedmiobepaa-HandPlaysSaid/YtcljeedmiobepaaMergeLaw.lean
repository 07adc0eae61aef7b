/-
  Two lists of rows in the order of their first numbers: merged, and inserted one by one, come to the same.
-/
import Derived.Test.YtcljeedmiobepaaRollLaw
namespace Go.Gh
set_option linter.unusedVariables false

section
variable (both : List Int → List Int → List Int) (big : List Int → Bool)
def mergeF : List (List Int) → List (List Int) → Option (List (List Int))
  | [], b => some b
  | x :: a, [] => some (x :: a)
  | x :: a, y :: b =>
    if rg x 0 < rg y 0 then (mergeF a (y :: b)).map (x :: ·)
    else if rg y 0 < rg x 0 then (mergeF (x :: a) b).map (y :: ·)
    else if big (both x y) then none else (mergeF a b).map (both x y :: ·)
termination_by a b => a.length + b.length
def insF : List (List Int) → List Int → List (List Int)
  | [], y => [y]
  | o :: out, y => if rg o 0 < rg y 0 then o :: insF out y else if rg o 0 = rg y 0 then both o y :: out else y :: o :: out
def insBig : List (List Int) → List Int → Bool
  | [], _ => false
  | o :: out, y => if rg o 0 < rg y 0 then insBig out y else if rg o 0 = rg y 0 then big (both o y) else false
def besF (out : List (List Int)) (bad : Bool) : List (List Int) → List (List Int) × Bool
  | [] => (out, bad)
  | y :: b => besF (insF both out y) (bad || insBig both big out y) b
end
def Asc (l : List (List Int)) : Prop := l.Pairwise fun x y => rg x 0 < rg y 0

section
variable {both : List Int → List Int → List Int} {big : List Int → Bool}
theorem merge_nil (a : List (List Int)) : mergeF both big a [] = some a := by
  cases a <;> rw [mergeF]
theorem merge_lt {x y : List Int} {a b : List (List Int)} (h : rg x 0 < rg y 0) : mergeF both big (x :: a) (y :: b) = (mergeF both big a (y :: b)).map (x :: ·) := by
  rw [mergeF, if_pos h]
theorem merge_gt {x y : List Int} {a b : List (List Int)} (h : rg y 0 < rg x 0) : mergeF both big (x :: a) (y :: b) = (mergeF both big (x :: a) b).map (y :: ·) := by
  rw [mergeF, if_neg (by omega), if_pos h]
theorem merge_eq {x y : List Int} {a b : List (List Int)} (h : rg x 0 = rg y 0) (hb : big (both x y) = false) : mergeF both big (x :: a) (y :: b) = (mergeF both big a b).map (both x y :: ·) := by
  rw [mergeF, if_neg (by omega), if_neg (by omega), hb]; rfl
theorem merge_big {x y : List Int} {a b : List (List Int)} (h : rg x 0 = rg y 0) (hb : big (both x y) = true) : mergeF both big (x :: a) (y :: b) = none := by
  rw [mergeF, if_neg (by omega), if_neg (by omega), hb]; rfl
theorem bes_bad (b : List (List Int)) : ∀ out, (besF both big out true b).2 = true := by
  induction b with
  | nil => intro out; rfl
  | cons y b ih => intro out; rw [besF, Bool.true_or]; exact ih _
theorem bes_front (b : List (List Int)) : ∀ (x : List Int) (a : List (List Int)) (bad : Bool), (∀ z ∈ b, rg x 0 < rg z 0) → besF both big (x :: a) bad b = (x :: (besF both big a bad b).1, (besF both big a bad b).2) := by
  induction b with
  | nil => intro x a bad _; rfl
  | cons y b ih =>
    intro x a bad h
    have hy := h y (by simp)
    rw [besF, besF, insF, if_pos hy, insBig, if_pos hy]
    exact ih _ _ _ fun z hz => h z (by simp [hz])
theorem bes_nil (b : List (List Int)) (h : Asc b) (bad : Bool) : besF both big [] bad b = (b, bad) := by
  induction b with
  | nil => rfl
  | cons y b ih =>
    have h' := List.pairwise_cons.1 h
    rw [besF, insF, insBig, Bool.or_false, bes_front b y [] bad h'.1, ih h'.2]
theorem bes_merge (hk : ∀ x y, rg (both x y) 0 = rg x 0) (n : Nat) : ∀ (a b : List (List Int)), a.length + b.length ≤ n → Asc a → Asc b → ∀ bad,
    (mergeF both big a b = none → (besF both big a bad b).2 = true) ∧ (∀ m, mergeF both big a b = some m → besF both big a bad b = (m, bad)) := by
  induction n with
  | zero =>
    intro a b hn _ _ bad
    obtain rfl : a = [] := List.length_eq_zero_iff.1 (by omega)
    obtain rfl : b = [] := List.length_eq_zero_iff.1 (by omega)
    rw [merge_nil]
    exact ⟨by simp, by intro m h; simp at h; subst h; rfl⟩
  | succ n ih =>
    intro a b hn ha hb bad
    match a, b with
    | [], b =>
      rw [mergeF, bes_nil b hb]
      exact ⟨by simp, by intro m h; simp at h; subst h; rfl⟩
    | x :: a, [] =>
      rw [merge_nil]
      exact ⟨by simp, by intro m h; simp at h; subst h; rfl⟩
    | x :: a, y :: b =>
      have ha' := List.pairwise_cons.1 ha
      have hb' := List.pairwise_cons.1 hb
      rw [List.length_cons, List.length_cons] at hn
      rcases Int.lt_trichotomy (rg x 0) (rg y 0) with h | h | h
      · obtain ⟨i1, i2⟩ := ih a (y :: b) (by rw [List.length_cons]; omega) ha'.2 hb bad
        have hall : ∀ z ∈ y :: b, rg x 0 < rg z 0 := by
          intro z hz
          rcases List.mem_cons.1 hz with h' | h'
          · rw [h']; exact h
          · have := hb'.1 z h'; omega
        rw [merge_lt h, bes_front _ x a bad hall]
        constructor
        · intro hn
          exact i1 (by simpa using hn)
        · intro m hm
          obtain ⟨m', h1, rfl⟩ := Option.map_eq_some_iff.1 hm
          rw [i2 m' h1]
      · have hall : ∀ z ∈ b, rg (both x y) 0 < rg z 0 := by
          intro z hz; rw [hk]; have := hb'.1 z hz; omega
        rw [besF, insF, if_neg (by omega), if_pos h, insBig, if_neg (by omega), if_pos h, bes_front b _ a _ hall]
        cases hbig : big (both x y) with
        | true =>
          rw [merge_big h hbig, Bool.or_true]
          exact ⟨fun _ => bes_bad b a, by intro m hm; simp at hm⟩
        | false =>
          obtain ⟨i1, i2⟩ := ih a b (by omega) ha'.2 hb'.2 bad
          rw [merge_eq h hbig, Bool.or_false]
          constructor
          · intro hn
            exact i1 (by simpa using hn)
          · intro m hm
            obtain ⟨m', h1, rfl⟩ := Option.map_eq_some_iff.1 hm
            rw [i2 m' h1]
      · obtain ⟨i1, i2⟩ := ih (x :: a) b (by rw [List.length_cons]; omega) ha hb'.2 bad
        rw [merge_gt h, besF, insF, if_neg (by omega), if_neg (by omega), insBig, if_neg (by omega), if_neg (by omega), Bool.or_false, bes_front b y (x :: a) bad hb'.1]
        constructor
        · intro hn
          exact i1 (by simpa using hn)
        · intro m hm
          obtain ⟨m', h1, rfl⟩ := Option.map_eq_some_iff.1 hm
          rw [i2 m' h1]
/-- What comes of it: the list, and an error's number (2, where a window counts too much or there are more than 1000). -/
def joinR (both : List Int → List Int → List Int) (big : List Int → Bool) (a b : List (List Int)) : List (List Int) × Int :=
  match mergeF both big a b with
  | none => ([], 2)
  | some m => if 1000 < m.length then ([], 2) else (m, 0)
def besideR (both : List Int → List Int → List Int) (big : List Int → Bool) (a b : List (List Int)) : List (List Int) × Int :=
  if (besF both big a false b).2 = true ∨ 1000 < (besF both big a false b).1.length then ([], 2) else ((besF both big a false b).1, 0)
theorem join_beside (hk : ∀ x y, rg (both x y) 0 = rg x 0) {a b : List (List Int)} (ha : Asc a) (hb : Asc b) : besideR both big a b = joinR both big a b := by
  obtain ⟨h1, h2⟩ := bes_merge (big := big) hk (a.length + b.length) a b (Nat.le_refl _) ha hb false
  unfold besideR joinR
  cases hm : mergeF both big a b with
  | none => rw [if_pos (Or.inl (h1 hm))]
  | some m =>
    rw [h2 m hm]
    simp only [Bool.false_eq_true, false_or]
/-- How an insertion goes, by a place. -/
theorem ins_at (both : List Int → List Int → List Int) (p : List (List Int)) : ∀ (q : List (List Int)) (y : List Int), (∀ o ∈ p, rg o 0 < rg y 0) → (∀ o r, q = o :: r → ¬ rg o 0 < rg y 0) →
    insF both (p ++ q) y = p ++ (match q with | [] => [y] | o :: r => if rg o 0 = rg y 0 then both o y :: r else y :: o :: r) := by
  induction p with
  | nil =>
    intro q y _ hq
    cases q with
    | nil => rfl
    | cons o r => rw [List.nil_append, List.nil_append, insF, if_neg (hq o r rfl)]
  | cons x p ih =>
    intro q y hp hq
    rw [List.cons_append, insF, if_pos (hp x (by simp)), ih q y (fun o ho => hp o (by simp [ho])) hq]
    rfl
theorem insBig_at (both : List Int → List Int → List Int) (big : List Int → Bool) (p : List (List Int)) : ∀ (q : List (List Int)) (y : List Int), (∀ o ∈ p, rg o 0 < rg y 0) → (∀ o r, q = o :: r → ¬ rg o 0 < rg y 0) →
    insBig both big (p ++ q) y = (match q with | [] => false | o :: r => if rg o 0 = rg y 0 then big (both o y) else false) := by
  induction p with
  | nil =>
    intro q y _ hq
    cases q with
    | nil => rfl
    | cons o r => rw [List.nil_append, insBig, if_neg (hq o r rfl)]
  | cons x p ih =>
    intro q y hp hq
    rw [List.cons_append, insBig, if_pos (hp x (by simp)), ih q y (fun o ho => hp o (by simp [ho])) hq]
end
theorem asc_of {l : List (List Int)} (h : ∀ i, i + 1 < l.length → rg (l.getD i []) 0 < rg (l.getD (i + 1) []) 0) : Asc l := by
  induction l with
  | nil => exact List.Pairwise.nil
  | cons x l ih =>
    have hl : Asc l := ih fun i hi => by
      have := h (i + 1) (by rw [List.length_cons]; omega)
      rwa [List.getD_cons_succ, List.getD_cons_succ] at this
    refine List.pairwise_cons.2 ⟨?_, hl⟩
    intro y hy
    cases l with
    | nil => cases hy
    | cons z l =>
      have h0 := h 0 (by simp)
      rw [List.getD_cons_zero, List.getD_cons_succ, List.getD_cons_zero] at h0
      rcases List.mem_cons.1 hy with h' | h'
      · rw [h']; exact h0
      · have := (List.pairwise_cons.1 hl).1 y h'; omega
end Go.Gh
