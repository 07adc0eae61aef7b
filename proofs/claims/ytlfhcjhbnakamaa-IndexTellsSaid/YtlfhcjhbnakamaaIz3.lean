/-
  Windows rolled up, as a plain function on rows of seven numbers: [T, N, Sum, Min, Max, First, Last].
-/
import Derived.Test.YtlfhcjhbnakamaaIz1
import Derived.Test.YtlfhcjhbnakamaaIz2
import Derived.WalkKit
namespace Go.Gh
open Go.RowKit

def rg (r : List Int) (j : Nat) : Int := r.getD j 0
def oneW (s : List Int) : List Int := [rg s 0, 1, rg s 1, rg s 1, rg s 1, rg s 1, rg s 1]
def bothW (a b : List Int) : List Int := [rg a 0, IntKind.i64.wrap (rg a 1 + rg b 1), IntKind.i64.wrap (rg a 2 + rg b 2), min (rg a 3) (rg b 3), max (rg a 4) (rg b 4), rg a 5, rg b 6]
/-- The start of the window of a time. -/
def startW (t width : Int) : Int := t - t % width
def setT (r : List Int) (t : Int) : List Int := t :: r.drop 1
/-- Fold rows behind those that are done; nothing, if a window counts more than 10^9. -/
def foldW (width : Int) (acc : List (List Int)) : List (List Int) → Option (List (List Int))
  | [] => some acc
  | x :: rest =>
    match acc.getLast? with
    | none => foldW width (acc ++ [setT x (startW (rg x 0) width)]) rest
    | some o =>
      if rg o 0 = startW (rg x 0) width then
        if 1000000000 < rg (bothW o x) 1 then none else foldW width (acc.dropLast ++ [bothW o x]) rest
      else foldW width (acc ++ [setT x (startW (rg x 0) width)]) rest
def goodT (t : Int) : Prop := -1152921504606846976 ≤ t ∧ t ≤ 1152921504606846976
instance (t : Int) : Decidable (goodT t) := inferInstanceAs (Decidable (_ ∧ _))
open Classical in
noncomputable def rolled (l : List (List Int)) (width : Int) : List (List Int) × Int :=
  if width < 1 ∨ 1099511627776 < width then ([], 1) else if ¬ ∀ r ∈ l, goodT (rg r 0) then ([], 6) else match foldW width [] l with
    | none => ([], 2)
    | some out => (out, 0)

theorem fold_new (width : Int) (acc : List (List Int)) (x : List Int) (rest : List (List Int)) (h : ∀ o, acc.getLast? = some o → rg o 0 ≠ startW (rg x 0) width) :
    foldW width acc (x :: rest) = foldW width (acc ++ [setT x (startW (rg x 0) width)]) rest := by
  rw [foldW]
  cases hl : acc.getLast? with
  | none => rfl
  | some o => simp [h o hl]
theorem fold_same (width : Int) (acc : List (List Int)) (o x : List Int) (rest : List (List Int)) (h : rg o 0 = startW (rg x 0) width) (hn : ¬ 1000000000 < rg (bothW o x) 1) :
    foldW width (acc ++ [o]) (x :: rest) = foldW width (acc ++ [bothW o x]) rest := by
  rw [foldW]
  simp [h, hn]
theorem fold_large (width : Int) (acc : List (List Int)) (o x : List Int) (rest : List (List Int)) (h : rg o 0 = startW (rg x 0) width) (hn : 1000000000 < rg (bothW o x) 1) :
    foldW width (acc ++ [o]) (x :: rest) = none := by
  rw [foldW]
  simp [h, hn]
theorem start_le (t width : Int) (h : 1 ≤ width) : startW t width ≤ t ∧ t < startW t width + width := by
  unfold startW
  have h1 := Int.emod_nonneg t (show width ≠ 0 by omega)
  have h2 := Int.emod_lt_of_pos t (show 0 < width by omega)
  omega
theorem rolled_ok {l : List (List Int)} {width : Int} (h : ¬ (width < 1 ∨ 1099511627776 < width)) (hg : ∀ i, i < l.length → goodT (rg (l.getD i []) 0)) : rolled l width = match foldW width [] l with
    | none => ([], 2)
    | some out => (out, 0) := by
  have hall : ∀ r ∈ l, goodT (rg r 0) := by
    intro r hr
    obtain ⟨i, hi, rfl⟩ := List.getElem_of_mem hr
    have := hg i hi
    rwa [List.getD_eq_getElem?_getD, List.getElem?_eq_getElem hi] at this
  unfold rolled
  rw [if_neg h, if_neg (fun hn => hn hall)]
theorem rolled_bad {l : List (List Int)} {width : Int} (h : ¬ (width < 1 ∨ 1099511627776 < width)) {i : Nat} (hi : i < l.length) (hg : ¬ goodT (rg (l.getD i []) 0)) : rolled l width = ([], 6) := by
  unfold rolled
  rw [if_neg h, if_pos]
  intro hall
  apply hg
  rw [List.getD_eq_getElem?_getD, List.getElem?_eq_getElem hi]
  exact hall _ (List.getElem_mem _)
theorem bothW_len (a b : List Int) : (bothW a b).length = 7 := rfl
theorem setT_len {r : List Int} (t : Int) (h : r.length = 7) : (setT r t).length = 7 := by
  unfold setT; simp [h]
theorem row7 (r : List Int) (h : r.length = 7) : ∃ a b c d e f g : Int, r = [a, b, c, d, e, f, g] := by
  match r, h with
  | [a, b, c, d, e, f, g], _ => exact ⟨a, b, c, d, e, f, g, rfl⟩
theorem drop_getD {l : List (List Int)} {k : Nat} (h : k < l.length) : l.drop k = l.getD k [] :: l.drop (k + 1) := by
  rw [List.getD_eq_getElem?_getD, List.getElem?_eq_getElem h]
  exact List.drop_eq_getElem_cons h
end Go.Gh
/-
  Two lists of rows in the order of their first numbers: merged, and inserted one by one, come to the same.
-/
namespace Go.Gh
set_option linter.unusedVariables false

section
variable (both : List Int → List Int → List Int) (big : List Int → Bool)
def mergeF : List (List Int) → List (List Int) → Option (List (List Int))
  | [], b => some b
  | x :: a, [] => some (x :: a)
  | x :: a, y :: b =>
    if rg x 0 < rg y 0 then (mergeF a (y :: b)).map (x :: ·)
    else if rg y 0 < rg x 0 then (mergeF (x :: a) b).map (y :: ·)
    else if big (both x y) then none else (mergeF a b).map (both x y :: ·)
termination_by a b => a.length + b.length
def insF : List (List Int) → List Int → List (List Int)
  | [], y => [y]
  | o :: out, y => if rg o 0 < rg y 0 then o :: insF out y else if rg o 0 = rg y 0 then both o y :: out else y :: o :: out
def insBig : List (List Int) → List Int → Bool
  | [], _ => false
  | o :: out, y => if rg o 0 < rg y 0 then insBig out y else if rg o 0 = rg y 0 then big (both o y) else false
def besF (out : List (List Int)) (bad : Bool) : List (List Int) → List (List Int) × Bool
  | [] => (out, bad)
  | y :: b => besF (insF both out y) (bad || insBig both big out y) b
end
def Asc (l : List (List Int)) : Prop := l.Pairwise fun x y => rg x 0 < rg y 0

section
variable {both : List Int → List Int → List Int} {big : List Int → Bool}
theorem merge_nil (a : List (List Int)) : mergeF both big a [] = some a := by
  cases a <;> rw [mergeF]
theorem merge_lt {x y : List Int} {a b : List (List Int)} (h : rg x 0 < rg y 0) : mergeF both big (x :: a) (y :: b) = (mergeF both big a (y :: b)).map (x :: ·) := by
  rw [mergeF, if_pos h]
theorem merge_gt {x y : List Int} {a b : List (List Int)} (h : rg y 0 < rg x 0) : mergeF both big (x :: a) (y :: b) = (mergeF both big (x :: a) b).map (y :: ·) := by
  rw [mergeF, if_neg (by omega), if_pos h]
theorem merge_eq {x y : List Int} {a b : List (List Int)} (h : rg x 0 = rg y 0) (hb : big (both x y) = false) : mergeF both big (x :: a) (y :: b) = (mergeF both big a b).map (both x y :: ·) := by
  rw [mergeF, if_neg (by omega), if_neg (by omega), hb]; rfl
theorem merge_big {x y : List Int} {a b : List (List Int)} (h : rg x 0 = rg y 0) (hb : big (both x y) = true) : mergeF both big (x :: a) (y :: b) = none := by
  rw [mergeF, if_neg (by omega), if_neg (by omega), hb]; rfl
theorem bes_bad (b : List (List Int)) : ∀ out, (besF both big out true b).2 = true := by
  induction b with
  | nil => intro out; rfl
  | cons y b ih => intro out; rw [besF, Bool.true_or]; exact ih _
theorem bes_front (b : List (List Int)) : ∀ (x : List Int) (a : List (List Int)) (bad : Bool), (∀ z ∈ b, rg x 0 < rg z 0) → besF both big (x :: a) bad b = (x :: (besF both big a bad b).1, (besF both big a bad b).2) := by
  induction b with
  | nil => intro x a bad _; rfl
  | cons y b ih =>
    intro x a bad h
    have hy := h y (by simp)
    rw [besF, besF, insF, if_pos hy, insBig, if_pos hy]
    exact ih _ _ _ fun z hz => h z (by simp [hz])
theorem bes_nil (b : List (List Int)) (h : Asc b) (bad : Bool) : besF both big [] bad b = (b, bad) := by
  induction b with
  | nil => rfl
  | cons y b ih =>
    have h' := List.pairwise_cons.1 h
    rw [besF, insF, insBig, Bool.or_false, bes_front b y [] bad h'.1, ih h'.2]
theorem bes_merge (hk : ∀ x y, rg (both x y) 0 = rg x 0) (n : Nat) : ∀ (a b : List (List Int)), a.length + b.length ≤ n → Asc a → Asc b → ∀ bad,
    (mergeF both big a b = none → (besF both big a bad b).2 = true) ∧ (∀ m, mergeF both big a b = some m → besF both big a bad b = (m, bad)) := by
  induction n with
  | zero =>
    intro a b hn _ _ bad
    obtain rfl : a = [] := List.length_eq_zero_iff.1 (by omega)
    obtain rfl : b = [] := List.length_eq_zero_iff.1 (by omega)
    rw [merge_nil]
    exact ⟨by simp, by intro m h; simp at h; subst h; rfl⟩
  | succ n ih =>
    intro a b hn ha hb bad
    match a, b with
    | [], b =>
      rw [mergeF, bes_nil b hb]
      exact ⟨by simp, by intro m h; simp at h; subst h; rfl⟩
    | x :: a, [] =>
      rw [merge_nil]
      exact ⟨by simp, by intro m h; simp at h; subst h; rfl⟩
    | x :: a, y :: b =>
      have ha' := List.pairwise_cons.1 ha
      have hb' := List.pairwise_cons.1 hb
      rw [List.length_cons, List.length_cons] at hn
      rcases Int.lt_trichotomy (rg x 0) (rg y 0) with h | h | h
      · obtain ⟨i1, i2⟩ := ih a (y :: b) (by rw [List.length_cons]; omega) ha'.2 hb bad
        have hall : ∀ z ∈ y :: b, rg x 0 < rg z 0 := by
          intro z hz
          rcases List.mem_cons.1 hz with h' | h'
          · rw [h']; exact h
          · have := hb'.1 z h'; omega
        rw [merge_lt h, bes_front _ x a bad hall]
        constructor
        · intro hn
          exact i1 (by simpa using hn)
        · intro m hm
          obtain ⟨m', h1, rfl⟩ := Option.map_eq_some_iff.1 hm
          rw [i2 m' h1]
      · have hall : ∀ z ∈ b, rg (both x y) 0 < rg z 0 := by
          intro z hz; rw [hk]; have := hb'.1 z hz; omega
        rw [besF, insF, if_neg (by omega), if_pos h, insBig, if_neg (by omega), if_pos h, bes_front b _ a _ hall]
        cases hbig : big (both x y) with
        | true =>
          rw [merge_big h hbig, Bool.or_true]
          exact ⟨fun _ => bes_bad b a, by intro m hm; simp at hm⟩
        | false =>
          obtain ⟨i1, i2⟩ := ih a b (by omega) ha'.2 hb'.2 bad
          rw [merge_eq h hbig, Bool.or_false]
          constructor
          · intro hn
            exact i1 (by simpa using hn)
          · intro m hm
            obtain ⟨m', h1, rfl⟩ := Option.map_eq_some_iff.1 hm
            rw [i2 m' h1]
      · obtain ⟨i1, i2⟩ := ih (x :: a) b (by rw [List.length_cons]; omega) ha hb'.2 bad
        rw [merge_gt h, besF, insF, if_neg (by omega), if_neg (by omega), insBig, if_neg (by omega), if_neg (by omega), Bool.or_false, bes_front b y (x :: a) bad hb'.1]
        constructor
        · intro hn
          exact i1 (by simpa using hn)
        · intro m hm
          obtain ⟨m', h1, rfl⟩ := Option.map_eq_some_iff.1 hm
          rw [i2 m' h1]
/-- What comes of it: the list, and an error's number (2, where a window counts too much or there are more than 1000). -/
def joinR (both : List Int → List Int → List Int) (big : List Int → Bool) (a b : List (List Int)) : List (List Int) × Int :=
  match mergeF both big a b with
  | none => ([], 2)
  | some m => if 1000 < m.length then ([], 2) else (m, 0)
def besideR (both : List Int → List Int → List Int) (big : List Int → Bool) (a b : List (List Int)) : List (List Int) × Int :=
  if (besF both big a false b).2 = true ∨ 1000 < (besF both big a false b).1.length then ([], 2) else ((besF both big a false b).1, 0)
theorem join_beside (hk : ∀ x y, rg (both x y) 0 = rg x 0) {a b : List (List Int)} (ha : Asc a) (hb : Asc b) : besideR both big a b = joinR both big a b := by
  obtain ⟨h1, h2⟩ := bes_merge (big := big) hk (a.length + b.length) a b (Nat.le_refl _) ha hb false
  unfold besideR joinR
  cases hm : mergeF both big a b with
  | none => rw [if_pos (Or.inl (h1 hm))]
  | some m =>
    rw [h2 m hm]
    simp only [Bool.false_eq_true, false_or]
/-- How an insertion goes, by a place. -/
theorem ins_at (both : List Int → List Int → List Int) (p : List (List Int)) : ∀ (q : List (List Int)) (y : List Int), (∀ o ∈ p, rg o 0 < rg y 0) → (∀ o r, q = o :: r → ¬ rg o 0 < rg y 0) →
    insF both (p ++ q) y = p ++ (match q with | [] => [y] | o :: r => if rg o 0 = rg y 0 then both o y :: r else y :: o :: r) := by
  induction p with
  | nil =>
    intro q y _ hq
    cases q with
    | nil => rfl
    | cons o r => rw [List.nil_append, List.nil_append, insF, if_neg (hq o r rfl)]
  | cons x p ih =>
    intro q y hp hq
    rw [List.cons_append, insF, if_pos (hp x (by simp)), ih q y (fun o ho => hp o (by simp [ho])) hq]
    rfl
theorem insBig_at (both : List Int → List Int → List Int) (big : List Int → Bool) (p : List (List Int)) : ∀ (q : List (List Int)) (y : List Int), (∀ o ∈ p, rg o 0 < rg y 0) → (∀ o r, q = o :: r → ¬ rg o 0 < rg y 0) →
    insBig both big (p ++ q) y = (match q with | [] => false | o :: r => if rg o 0 = rg y 0 then big (both o y) else false) := by
  induction p with
  | nil =>
    intro q y _ hq
    cases q with
    | nil => rfl
    | cons o r => rw [List.nil_append, insBig, if_neg (hq o r rfl)]
  | cons x p ih =>
    intro q y hp hq
    rw [List.cons_append, insBig, if_pos (hp x (by simp)), ih q y (fun o ho => hp o (by simp [ho])) hq]
end
theorem asc_of {l : List (List Int)} (h : ∀ i, i + 1 < l.length → rg (l.getD i []) 0 < rg (l.getD (i + 1) []) 0) : Asc l := by
  induction l with
  | nil => exact List.Pairwise.nil
  | cons x l ih =>
    have hl : Asc l := ih fun i hi => by
      have := h (i + 1) (by rw [List.length_cons]; omega)
      rwa [List.getD_cons_succ, List.getD_cons_succ] at this
    refine List.pairwise_cons.2 ⟨?_, hl⟩
    intro y hy
    cases l with
    | nil => cases hy
    | cons z l =>
      have h0 := h 0 (by simp)
      rw [List.getD_cons_zero, List.getD_cons_succ, List.getD_cons_zero] at h0
      rcases List.mem_cons.1 hy with h' | h'
      · rw [h']; exact h0
      · have := (List.pairwise_cons.1 hl).1 y h'; omega
end Go.Gh
/-
  Words shared by the walks, part four: results that are a list of rows and an error's number; heads and tails.
-/
namespace Go.Gh
open Go.RowKit
set_option linter.unusedVariables false

def RowPost (T : TypeId) (k : Nat) (w : World) (r : List (List Int) × Int) (e : Ending) (w' : World) : Prop := ∃ v', e = .returned (.tuple #[v', .int .i64 r.2]) ∧ w'.ownsRow w.heap.size T k v' r.1.length (rowCells r.1) ∧ Below w.heap.size w w' ∧ RowsK k r.1 ∧ r.1.length ≤ 1000
theorem rowPost_nil {T : TypeId} {k : Nat} {w w' : World} {c : Int} {r : List (List Int) × Int} (h : r = ([], c)) (hb : Below w.heap.size w w') : RowPost T k w r (.returned (.tuple #[.slice none 0 0, .int .i64 c])) w' := by
  subst h
  exact ⟨_, rfl, World.ownsRow_nil _ _ _ _, hb, by intro r hr; simp at hr, by simp⟩
theorem rowPost_below {T : TypeId} {k : Nat} {w w1 w' : World} {r : List (List Int) × Int} {e : Ending} (h : RowPost T k w1 r e w') (hb : Below w.heap.size w w1) : RowPost T k w r e w' := by
  obtain ⟨v, h1, h2, h3, h4, h5⟩ := h
  exact ⟨v, h1, own_mono h2 hb.size, hb.trans (h3.mono hb.size), h4, h5⟩
theorem tail_spec {w : World} {k q c b off : Nat} {x : List Int} {a : List (List Int)} (h : Sl w k (.slice (some ⟨b, off, none⟩) (q + 1) c) (q + 1) (rowCells (x :: a))) (hx : x.length = k) :
    (c = 1 → Sl w k (.slice (some ⟨b, off, none⟩) q 0) q (rowCells a)) ∧ (¬ c = 1 → Sl w k (.slice (some ⟨b, off + k, none⟩) q (c - 1)) q (rowCells a)) := by
  have := sl_sliced h (show 1 ≤ q + 1 by omega) (Nat.le_refl _)
  rw [Nat.one_mul, rowCells_tail hx, Nat.add_sub_cancel] at this
  have hl : (rowCells a).length = q * k := by
    obtain ⟨_, _, _, _, _, _, h5, _⟩ := h
    unfold rowCells at h5 ⊢
    rw [List.flatMap_cons, List.length_append, List.length_map, hx, Nat.add_mul] at h5
    omega
  rw [List.take_of_length_le (by omega)] at this
  unfold sliced at this
  constructor
  · intro hc
    subst hc
    simpa using this
  · intro hc
    rw [if_neg hc] at this
    simpa [addr_add] using this
/-- Two lists as they are merged: what is left of each, and what has been put out. -/
structure MRel (T : TypeId) (k : Nat) (both : List Int → List Int → List Int) (big : List Int → Bool) (l m : List (List Int)) (B p q r : Nat) (w wr : World) (ua ub u : Value) : Prop where
  ex : ∃ a b acc, Sl w k ua p (rowCells a) ∧ a.length = p ∧ RowsK k a ∧ Sl w k ub q (rowCells b) ∧ b.length = q ∧ RowsK k b ∧ wr.ownsRow B T k u r (rowCells acc) ∧ acc.length = r ∧ RowsK k acc ∧ mergeF both big l m = (mergeF both big a b).map (acc ++ ·)
theorem map_push (o : Option (List (List Int))) (x : List Int) (acc : List (List Int)) : (o.map (x :: ·)).map (acc ++ ·) = o.map ((acc ++ [x]) ++ ·) := by
  cases o <;> simp
theorem RowsK.head {k : Nat} {x : List Int} {a : List (List Int)} (h : RowsK k (x :: a)) : x.length = k := h x (by simp)
theorem rows_snoc (acc : List (List Int)) (r : List Int) : rowCells acc ++ r.map (Value.int .i64) = rowCells (acc ++ [r]) := by
  rw [rowCells_append, rowCells_one]
section
variable {T : TypeId} {k : Nat} {both : List Int → List Int → List Int} {big : List Int → Bool} {l m a b acc : List (List Int)} {B p q r : Nat} {w wr : World} {ua ub u : Value} {x y : List Int}
theorem mrel_a (hsa : Sl w k ua p (rowCells a)) (hla : (x :: a).length = p + 1) (hra : RowsK k (x :: a)) (hsb : Sl w k ub q (rowCells b)) (hlb : b.length = q) (hrb : RowsK k b) (hown : wr.ownsRow B T k u (r + 1) (rowCells acc ++ x.map (Value.int .i64))) (hlc : acc.length = r) (hrc : RowsK k acc)
    (hf : mergeF both big l m = (mergeF both big (x :: a) b).map (acc ++ ·)) (hlt : ∀ y b', b = y :: b' → rg x 0 < rg y 0) : MRel T k both big l m B p q (r + 1) w wr ua ub u := by
  refine ⟨a, b, acc ++ [x], hsa, by simpa using hla, hra.tail, hsb, hlb, hrb, ?_, by simp [hlc], hrc.snoc hra.head, ?_⟩
  · rw [← rows_snoc]; exact hown
  · rw [hf, ← map_push]
    cases b with
    | nil => rw [merge_nil, merge_nil]; rfl
    | cons y b' => rw [merge_lt (hlt y b' rfl)]
theorem mrel_b (hsa : Sl w k ua p (rowCells a)) (hla : a.length = p) (hra : RowsK k a) (hsb : Sl w k ub q (rowCells b)) (hlb : (y :: b).length = q + 1) (hrb : RowsK k (y :: b)) (hown : wr.ownsRow B T k u (r + 1) (rowCells acc ++ y.map (Value.int .i64))) (hlc : acc.length = r) (hrc : RowsK k acc)
    (hf : mergeF both big l m = (mergeF both big a (y :: b)).map (acc ++ ·)) (hlt : ∀ x a', a = x :: a' → rg y 0 < rg x 0) : MRel T k both big l m B p q (r + 1) w wr ua ub u := by
  refine ⟨a, b, acc ++ [y], hsa, hla, hra, hsb, by simpa using hlb, hrb.tail, ?_, by simp [hlc], hrc.snoc hrb.head, ?_⟩
  · rw [← rows_snoc]; exact hown
  · rw [hf, ← map_push]
    cases a with
    | nil => rw [mergeF, mergeF]; rfl
    | cons x a' => rw [merge_gt (hlt x a' rfl)]
theorem mrel_ab (hsa : Sl w k ua p (rowCells a)) (hla : (x :: a).length = p + 1) (hra : RowsK k (x :: a)) (hsb : Sl w k ub q (rowCells b)) (hlb : (y :: b).length = q + 1) (hrb : RowsK k (y :: b)) (hown : wr.ownsRow B T k u (r + 1) (rowCells acc ++ (both x y).map (Value.int .i64))) (hlc : acc.length = r) (hrc : RowsK k acc)
    (hbk : (both x y).length = k) (hf : mergeF both big l m = (mergeF both big (x :: a) (y :: b)).map (acc ++ ·)) (heq : rg x 0 = rg y 0) (hbig : big (both x y) = false) : MRel T k both big l m B p q (r + 1) w wr ua ub u := by
  refine ⟨a, b, acc ++ [both x y], hsa, by simpa using hla, hra.tail, hsb, by simpa using hlb, hrb.tail, ?_, by simp [hlc], hrc.snoc hbk, ?_⟩
  · rw [← rows_snoc]; exact hown
  · rw [hf, ← map_push, merge_eq heq hbig]
end
theorem cons_of {l : List (List Int)} {n : Nat} (h : l.length = n + 1) : ∃ x r, l = x :: r := by
  cases l with
  | nil => simp at h
  | cons x r => exact ⟨x, r, rfl⟩
end Go.Gh
/-
  Words shared by the walks, part five: append to a slice that has no room left.
-/
namespace Go.Gh
open Go.RowKit
set_option linter.unusedVariables false

theorem sl_news {W : World} {size m c : Nat} {ad : Addr} {news : List Value} (h : Sl W size (.slice (some ad) m c) m news) : ∀ j u, news[j]? = some u → W.cell? (ad.add j) = some u := by
  obtain ⟨ao', cap, e1, _, _, _, hl, hc⟩ := h
  simp at e1
  obtain ⟨rfl, rfl⟩ := e1
  intro j u hu
  have hm : 0 < m := by
    rcases Nat.eq_zero_or_pos m with h | h
    · subst h
      have : news = [] := List.length_eq_zero_iff.1 (by simpa using hl)
      subst this; simp at hu
    · exact h
  obtain ⟨b, off, e2, hc'⟩ := hc hm
  have : ad = ⟨b, off, none⟩ := by simpa using e2
  subst this
  rw [addr_add]
  exact hc' j u hu
theorem grown_row (W : World) {e : TypeId} {size n old : Nat} (z : Value) (hz : z.cells.size = size) (cells : List Value) (hl : cells.length = n * size) (ho : old < n) (h63 : n ≤ maxLen) {B : Nat} (hB : B ≤ W.heap.size) :
    (W.drew.alloc (.cells (cells.toArray ++ Builtin.zeroCells z.cells (grownCap W n old e - n)) e)).ownsRow B e size (.slice (some ⟨W.heap.size, 0, none⟩) n (grownCap W n old e)) n cells := by
  have hge := grownCap_ge W n old e
  have hcm : grownCap W n old e ≤ maxLen := grownCap_le_maxLen W n old e h63
  refine ⟨hl, .inr ⟨W.heap.size, _, _, rfl, hB, heap_alloc_new W.drew _, hge, hcm, ?_, ?_⟩⟩
  · simp only [Array.size_append, List.size_toArray, size_zeroCells, hz, hl, ← Nat.add_mul]
    congr 1
    omega
  · rw [← hl, Array.toList_append, List.take_append_of_le_length (by simp), List.take_of_length_le (by simp)]
theorem run_append_full {P : Program} {W : World} {t ty e : TypeId} {size bytes : Nat} (el : Elem P t e size bytes) (ao : Option Addr) (n : Nat) (olds : List Value) (hsl : Sl W size (.slice ao n n) n olds) (ad : Addr) (m c : Nat) (news : List Value)
    (hx : Sl W size (.slice (some ad) m c) m news) (hm : 0 < m) (h47 : (n + m) * bytes ≤ 140737488355328) (h63 : n + m ≤ 9223372036854775807) :
    ∃ cap w', (Builtin.append_ #[t, t] ty #[.slice ao n n, .slice (some ad) m c]).run P W = .ok (.slice (some ⟨W.heap.size, 0, none⟩) (n + m) cap) w' ∧
      (∀ B, B ≤ W.heap.size → w'.ownsRow B e size (.slice (some ⟨W.heap.size, 0, none⟩) (n + m) cap) (n + m) (olds ++ news)) ∧ W.grownBy w' none := by
  obtain ⟨i, z, h2, h3, h4, h5, h6⟩ := el.info
  have hnews := sl_news hx
  have hl : news.length = m * size := by obtain ⟨_, _, _, _, _, _, h, _⟩ := hx; exact h
  have hlo : olds.length = n * size := by obtain ⟨_, _, _, _, _, _, h, _⟩ := hsl; exact h
  have hlen : (olds ++ news).length = (n + m) * size := by rw [List.length_append, hlo, hl, Nat.add_mul]
  subst h4
  subst h5
  have hgb : ∀ o, W.grownBy (W.drew.alloc o) none := fun o => ⟨rfl, rfl, rfl, by simp, fun k hk _ => heap_alloc_old W.drew _ hk⟩
  cases ao with
  | none =>
    have hn : n = 0 := by
      obtain ⟨ao', cap, e1, _, _, h, _, _⟩ := hsl
      simp at e1
      rw [e1.2]; exact h e1.1.symm
    subst hn
    have ho : olds = [] := List.length_eq_zero_iff.1 (by simpa using hlo)
    subst ho
    have hr := run_append_nil (P := P) W t ty e i z el.und h2 h3 ad m c news hl hnews hm (by omega) (by rw [Nat.zero_add] at h47; omega)
    rw [Nat.zero_add]
    refine ⟨_, _, hr, fun B hB => ?_, hgb _⟩
    rw [List.nil_append]
    exact grown_row W z h6 news hl hm (by unfold maxLen; omega) hB
  | some b =>
    have hr := run_append_grow (P := P) W t ty e i z el.und h2 h3 b n n olds hlo (sl_news hsl) ad m c news hl hnews (by omega) (by omega) (growslice_fits (by omega) h47)
    refine ⟨_, _, hr, fun B hB => ?_, hgb _⟩
    have e1 : olds.toArray ++ news.toArray = (olds ++ news).toArray := by simp
    rw [e1]
    exact grown_row W z h6 _ hlen (by omega) (by unfold maxLen; omega) hB
/-- append to a slice without room: at the operation. -/
theorem wp_append_full {P : Program} {o : Oper} {a : Act} {K : Act → World → Prop} {Q : Exit → Act → World → Prop} {W w0 : World} {B : Nat} {t e : TypeId} {size bytes : Nat} (el : Elem P t e size bytes) (s x : Operand)
    (ho : o.op = .call { callee := .builtin .append, args := #[s, x], argTypes := #[t, t] }) (ao : Option Addr) (n : Nat) (olds : List Value) (hs : a.eval s = .slice ao n n) (hsl : Sl W size (.slice ao n n) n olds) (ad : Addr) (m c : Nat) (news : List Value)
    (hx : a.eval x = .slice (some ad) m c) (hxl : Sl W size (.slice (some ad) m c) m news) (hm : 0 < m) (h47 : (n + m) * bytes ≤ 140737488355328) (h63 : n + m ≤ 9223372036854775807) (hbel : Below B w0 W) (hB : B ≤ W.heap.size)
    (h : ∀ cap w', (∀ B', B' ≤ W.heap.size → w'.ownsRow B' e size (.slice (some ⟨W.heap.size, 0, none⟩) (n + m) cap) (n + m) (olds ++ news)) → Below B w0 w' → W.grownBy w' none → K (a.put o.dst (.slice (some ⟨W.heap.size, 0, none⟩) (n + m) cap)) w') : o.wp P a W K Q := by
  obtain ⟨cap, w', hr, h2, h3⟩ := run_append_full (P := P) (ty := o.type) el ao n olds hsl ad m c news hxl hm h47 h63
  unfold Oper.wp execOp
  simp only [ho, resolve, invoke, builtin, Sem.run_bind, Sem.run_pure, Result.andThen_ok, List.map_toArray, List.map_cons, List.map_nil, hs, hx, hr]
  exact h cap w' h2 (Below.grown hbel h3 hB (fun k hk => by simp at hk)) h3
theorem wpList_append_full {P : Program} {ops : Array Oper} {rest : List Oper} {o : Oper} {a : Act} {Q : Exit → Act → World → Prop} {W w0 : World} {B : Nat} {t e : TypeId} {size bytes : Nat} (el : Elem P t e size bytes) (hgd : o.guard = none) (s x : Operand)
    (ho : o.op = .call { callee := .builtin .append, args := #[s, x], argTypes := #[t, t] }) (ao : Option Addr) (n : Nat) (olds : List Value) (hs : a.eval s = .slice ao n n) (hsl : Sl W size (.slice ao n n) n olds) (ad : Addr) (m c : Nat) (news : List Value)
    (hx : a.eval x = .slice (some ad) m c) (hxl : Sl W size (.slice (some ad) m c) m news) (hm : 0 < m) (h47 : (n + m) * bytes ≤ 140737488355328) (h63 : n + m ≤ 9223372036854775807) (hbel : Below B w0 W) (hB : B ≤ W.heap.size)
    (h : ∀ cap w', (∀ B', B' ≤ W.heap.size → w'.ownsRow B' e size (.slice (some ⟨W.heap.size, 0, none⟩) (n + m) cap) (n + m) (olds ++ news)) → Below B w0 w' → W.grownBy w' none → wpList P ops Q rest (a.put o.dst (.slice (some ⟨W.heap.size, 0, none⟩) (n + m) cap)) w') : wpList P ops Q (o :: rest) a W :=
  wpList_plain hgd fun _ hK => wp_append_full el s x ho ao n olds hs hsl ad m c news hx hxl hm h47 h63 hbel hB fun cap w' h2 h3 h4 => hK _ _ (h cap w' h2 h3 h4)
theorem step_append_full {P : Program} {ops : Array Oper} {o : Oper} {a : Act} {K : Act → World → Prop} {Q : Exit → Act → World → Prop} {E : Prop} {W w0 : World} {B : Nat} {t e : TypeId} {size bytes : Nat} (el : Elem P t e size bytes) (hgd : o.guard = none) (s x : Operand)
    (ho : o.op = .call { callee := .builtin .append, args := #[s, x], argTypes := #[t, t] }) (ao : Option Addr) (n : Nat) (olds : List Value) (hs : a.eval s = .slice ao n n) (hsl : Sl W size (.slice ao n n) n olds) (ad : Addr) (m c : Nat) (news : List Value)
    (hx : a.eval x = .slice (some ad) m c) (hxl : Sl W size (.slice (some ad) m c) m news) (hm : 0 < m) (h47 : (n + m) * bytes ≤ 140737488355328) (h63 : n + m ≤ 9223372036854775807) (hbel : Below B w0 W) (hB : B ≤ W.heap.size)
    (h : ∀ cap w', (∀ B', B' ≤ W.heap.size → w'.ownsRow B' e size (.slice (some ⟨W.heap.size, 0, none⟩) (n + m) cap) (n + m) (olds ++ news)) → Below B w0 w' → W.grownBy w' none → K (a.put o.dst (.slice (some ⟨W.heap.size, 0, none⟩) (n + m) cap)) w') :
    if Region.wanted o (yielded ops a.tmps) = true then Oper.wp P o a W K Q else E := by
  have hw : Region.wanted o (yielded ops a.tmps) = true := by simp [Region.wanted, hgd]
  rw [if_pos hw]
  exact wp_append_full el s x ho ao n olds hs hsl ad m c news hx hxl hm h47 h63 hbel hB h
end Go.Gh
/-
  Rows whose first numbers lie within bounds: by a filter, and by two places in a list that is in order.
-/
namespace Go.Gh
set_option linter.unusedVariables false

def betF (fr till : Int) (l : List (List Int)) : List (List Int) := l.filter fun x => decide (fr ≤ rg x 0) && decide (rg x 0 < till)
theorem betF_nil (fr till : Int) : betF fr till [] = [] := rfl
theorem betF_len (fr till : Int) (l : List (List Int)) : (betF fr till l).length ≤ l.length := List.length_filter_le _ _
theorem take_getD {l : List (List Int)} {k : Nat} (h : k < l.length) : l.take (k + 1) = l.take k ++ [l.getD k []] := by
  rw [List.take_succ_eq_append_getElem h, List.getD_eq_getElem?_getD, List.getElem?_eq_getElem h]; rfl
theorem betF_in {fr till : Int} {l : List (List Int)} {k : Nat} (h : k < l.length) (h1 : fr ≤ rg (l.getD k []) 0) (h2 : rg (l.getD k []) 0 < till) : betF fr till (l.take (k + 1)) = betF fr till (l.take k) ++ [l.getD k []] := by
  rw [take_getD h]
  unfold betF
  rw [List.filter_append, List.filter_cons_of_pos (by rw [decide_eq_true h1, decide_eq_true h2]; rfl), List.filter_nil]
theorem betF_out {fr till : Int} {l : List (List Int)} {k : Nat} (h : k < l.length) (h1 : ¬ (fr ≤ rg (l.getD k []) 0 ∧ rg (l.getD k []) 0 < till)) : betF fr till (l.take (k + 1)) = betF fr till (l.take k) := by
  rw [take_getD h]
  unfold betF
  rw [List.filter_append, List.filter_cons_of_neg (by simp only [Bool.and_eq_true, decide_eq_true_eq]; exact h1), List.filter_nil, List.append_nil]
theorem mem_getD {l : List (List Int)} {x : List Int} (h : x ∈ l) : ∃ t, t < l.length ∧ l.getD t [] = x := by
  obtain ⟨t, ht, rfl⟩ := List.getElem_of_mem h
  exact ⟨t, ht, by rw [List.getD_eq_getElem?_getD, List.getElem?_eq_getElem ht]; rfl⟩
theorem getD_at {l : List (List Int)} {t : Nat} (ht : t < l.length) : l.getD t [] = l[t] := by
  rw [List.getD_eq_getElem?_getD, List.getElem?_eq_getElem ht]; rfl
/-- The place of the first element that is not below a bound. -/
def PlaceOf (b : Int) (l : List (List Int)) (i : Nat) : Prop := i ≤ l.length ∧ (∀ t, t < i → rg (l.getD t []) 0 < b) ∧ (∀ t, i ≤ t → t < l.length → b ≤ rg (l.getD t []) 0)
theorem bet_none {fr till : Int} {l : List (List Int)} {i k : Nat} (hi : PlaceOf fr l i) (hk : PlaceOf till l k) (h : k ≤ i) : betF fr till l = [] := by
  unfold betF
  rw [List.filter_eq_nil_iff]
  intro x hx
  obtain ⟨t, ht, rfl⟩ := mem_getD hx
  rcases Nat.lt_or_ge t i with h1 | h1
  · have := hi.2.1 t h1
    simp only [Bool.and_eq_true, decide_eq_true_eq]; omega
  · have := hk.2.2 t (by omega) ht
    simp only [Bool.and_eq_true, decide_eq_true_eq]; omega
theorem bet_some {fr till : Int} {l : List (List Int)} {i k : Nat} (hi : PlaceOf fr l i) (hk : PlaceOf till l k) (h : i ≤ k) : betF fr till l = (l.drop i).take (k - i) := by
  have hkl := hk.1
  have e : l = l.take i ++ (l.drop i).take (k - i) ++ l.drop k := by
    have h1 : (l.drop i).drop (k - i) = l.drop k := by rw [List.drop_drop]; congr 1; omega
    rw [List.append_assoc, ← h1, List.take_append_drop, List.take_append_drop]
  conv => lhs; rw [e]
  unfold betF
  rw [List.filter_append, List.filter_append]
  have a1 : (l.take i).filter (fun x => decide (fr ≤ rg x 0) && decide (rg x 0 < till)) = [] := by
    rw [List.filter_eq_nil_iff]
    intro x hx
    obtain ⟨t, ht, rfl⟩ := List.getElem_of_mem hx
    rw [List.length_take] at ht
    have := hi.2.1 t (by omega)
    rw [getD_at (by omega)] at this
    rw [List.getElem_take]
    simp only [Bool.and_eq_true, decide_eq_true_eq]; omega
  have a3 : (l.drop k).filter (fun x => decide (fr ≤ rg x 0) && decide (rg x 0 < till)) = [] := by
    rw [List.filter_eq_nil_iff]
    intro x hx
    obtain ⟨t, ht, rfl⟩ := List.getElem_of_mem hx
    rw [List.length_drop] at ht
    have := hk.2.2 (k + t) (by omega) (by omega)
    rw [getD_at (by omega)] at this
    rw [List.getElem_drop]
    simp only [Bool.and_eq_true, decide_eq_true_eq]; omega
  have a2 : ((l.drop i).take (k - i)).filter (fun x => decide (fr ≤ rg x 0) && decide (rg x 0 < till)) = (l.drop i).take (k - i) := by
    rw [List.filter_eq_self]
    intro x hx
    obtain ⟨t, ht, rfl⟩ := List.getElem_of_mem hx
    rw [List.length_take, List.length_drop] at ht
    have h1 := hi.2.2 (i + t) (by omega) (by omega)
    have h2 := hk.2.1 (i + t) (by omega)
    rw [getD_at (by omega)] at h1 h2
    rw [List.getElem_take, List.getElem_drop]
    simp only [Bool.and_eq_true, decide_eq_true_eq]; omega
  rw [a1, a2, a3, List.nil_append, List.append_nil]
theorem Asc.le {l : List (List Int)} (h : Asc l) {a b : Nat} (hab : a ≤ b) (hb : b < l.length) : rg (l.getD a []) 0 ≤ rg (l.getD b []) 0 := by
  rcases Nat.lt_or_eq_of_le hab with h1 | h1
  · have := List.pairwise_iff_getElem.1 h a b (by omega) hb h1
    rw [getD_at (by omega), getD_at hb]; omega
  · subst h1; omega
theorem Asc.betF {l : List (List Int)} (h : Asc l) (fr till : Int) : Asc (betF fr till l) := List.Pairwise.filter _ h
end Go.Gh
/-
  Insertion of rows one by one: by places in the list.
-/
namespace Go.Gh
set_option linter.unusedVariables false

theorem bes_snoc (both : List Int → List Int → List Int) (big : List Int → Bool) (l : List (List Int)) : ∀ (out : List (List Int)) (bad : Bool) (y : List Int),
    besF both big out bad (l ++ [y]) = (insF both (besF both big out bad l).1 y, (besF both big out bad l).2 || insBig both big (besF both big out bad l).1 y) := by
  induction l with
  | nil => intro out bad y; rfl
  | cons x l ih => intro out bad y; rw [List.cons_append, besF, ih]; rfl
theorem split_at {acc : List (List Int)} {i : Nat} (h : i < acc.length) : acc = acc.take i ++ acc.getD i [] :: acc.drop (i + 1) := by
  rw [getD_at h, ← List.drop_eq_getElem_cons h, List.take_append_drop]
theorem take_mem {acc : List (List Int)} {i : Nat} {o : List Int} (h : o ∈ acc.take i) : ∃ t, t < i ∧ t < acc.length ∧ acc.getD t [] = o := by
  obtain ⟨t, ht, rfl⟩ := List.getElem_of_mem h
  rw [List.length_take] at ht
  exact ⟨t, by omega, by omega, by rw [getD_at (by omega), List.getElem_take]⟩
theorem ins_place (both : List Int → List Int → List Int) {acc : List (List Int)} {y : List Int} {i : Nat} (hi : i ≤ acc.length) (h1 : ∀ t, t < i → rg (acc.getD t []) 0 < rg y 0) (h2 : i < acc.length → ¬ rg (acc.getD i []) 0 < rg y 0) :
    insF both acc y = if i < acc.length ∧ rg (acc.getD i []) 0 = rg y 0 then acc.set i (both (acc.getD i []) y) else acc.take i ++ y :: acc.drop i := by
  have hp : ∀ o ∈ acc.take i, rg o 0 < rg y 0 := by
    intro o ho
    obtain ⟨t, ht, _, rfl⟩ := take_mem ho
    exact h1 t ht
  rcases Nat.lt_or_ge i acc.length with h | h
  · have e := split_at h
    have := ins_at both (acc.take i) (acc.getD i [] :: acc.drop (i + 1)) y hp (fun o r ho => by injection ho with h3 h4; rw [← h3]; exact h2 h)
    rw [← e] at this
    rw [this]
    by_cases hq : rg (acc.getD i []) 0 = rg y 0
    · rw [if_pos ⟨h, hq⟩, List.set_eq_take_append_cons_drop, if_pos h]
      simp only [if_pos hq]
    · rw [if_neg (fun h => hq h.2)]
      simp only [if_neg hq]
      rw [getD_at h, ← List.drop_eq_getElem_cons h]
  · rw [if_neg (fun h' => by omega)]
    have := ins_at both (acc.take i) [] y hp (fun o r ho => by cases ho)
    rw [List.append_nil] at this
    have e : acc.take i = acc := List.take_of_length_le h
    rw [e] at this
    rw [this, e, List.drop_of_length_le h]
theorem insBig_place (both : List Int → List Int → List Int) (big : List Int → Bool) {acc : List (List Int)} {y : List Int} {i : Nat} (hi : i ≤ acc.length) (h1 : ∀ t, t < i → rg (acc.getD t []) 0 < rg y 0) (h2 : i < acc.length → ¬ rg (acc.getD i []) 0 < rg y 0) :
    insBig both big acc y = if i < acc.length ∧ rg (acc.getD i []) 0 = rg y 0 then big (both (acc.getD i []) y) else false := by
  have hp : ∀ o ∈ acc.take i, rg o 0 < rg y 0 := by
    intro o ho
    obtain ⟨t, ht, _, rfl⟩ := take_mem ho
    exact h1 t ht
  rcases Nat.lt_or_ge i acc.length with h | h
  · have e := split_at h
    have := insBig_at both big (acc.take i) (acc.getD i [] :: acc.drop (i + 1)) y hp (fun o r ho => by injection ho with h3 h4; rw [← h3]; exact h2 h)
    rw [← e] at this
    rw [this]
    by_cases hq : rg (acc.getD i []) 0 = rg y 0
    · rw [if_pos ⟨h, hq⟩]
      simp only [if_pos hq]
    · rw [if_neg (fun h => hq h.2)]
      simp only [if_neg hq]
  · rw [if_neg (fun h' => by omega)]
    have := insBig_at both big (acc.take i) [] y hp (fun o r ho => by cases ho)
    rw [List.append_nil] at this
    have e : acc.take i = acc := List.take_of_length_le h
    rw [e] at this
    exact this
theorem RowsK.ins {k : Nat} {acc : List (List Int)} {y : List Int} (h : RowsK k acc) (hy : y.length = k) (i : Nat) : RowsK k (acc.take i ++ y :: acc.drop i) := by
  intro r hr
  rcases List.mem_append.1 hr with h' | h'
  · exact h r (List.mem_of_mem_take h')
  · rcases List.mem_cons.1 h' with h'' | h''
    · rw [h'']; exact hy
    · exact h r (List.mem_of_mem_drop h'')
theorem RowsK.set {k : Nat} {acc : List (List Int)} {y : List Int} (h : RowsK k acc) (hy : y.length = k) (i : Nat) : RowsK k (acc.set i y) := by
  intro r hr
  rcases List.mem_or_eq_of_mem_set hr with h' | h'
  · exact h r h'
  · rw [h']; exact hy
theorem ins_len {acc : List (List Int)} {y : List Int} {i : Nat} (hi : i ≤ acc.length) : (acc.take i ++ y :: acc.drop i).length = acc.length + 1 := by
  rw [List.length_append, List.length_cons, List.length_take, List.length_drop]; omega
theorem rowCells_ins (acc : List (List Int)) (y : List Int) (i : Nat) : rowCells (acc.take i ++ y :: acc.drop i) = rowCells (acc.take i) ++ (y.map (Value.int .i64) ++ rowCells (acc.drop i)) := by
  rw [rowCells_append]
  rfl
/-- How far an insertion has come: the first i are ahead of the row. -/
def Ahead (acc : List (List Int)) (y : List Int) (i : Nat) : Prop := i ≤ acc.length ∧ ∀ t, t < i → rg (acc.getD t []) 0 < rg y 0
theorem Ahead.zero (acc : List (List Int)) (y : List Int) : Ahead acc y 0 := ⟨Nat.zero_le _, fun t ht => by omega⟩
theorem Ahead.succ {acc : List (List Int)} {y : List Int} {i : Nat} (h : Ahead acc y i) (hi : i < acc.length) (hlt : rg (acc.getD i []) 0 < rg y 0) : Ahead acc y (i + 1) :=
  ⟨hi, fun t ht => by
    rcases Nat.lt_or_eq_of_le (Nat.le_of_lt_succ ht) with h' | h'
    · exact h.2 t h'
    · rw [h']; exact hlt⟩
/-- What the insertions come to, as far as they have gone. -/
def besTo (both : List Int → List Int → List Int) (big : List Int → Bool) (a b : List (List Int)) (k : Nat) : List (List Int) × Bool := besF both big a false (b.take k)
theorem besTo_zero (both : List Int → List Int → List Int) (big : List Int → Bool) (a b : List (List Int)) : besTo both big a b 0 = (a, false) := rfl
theorem besTo_all (both : List Int → List Int → List Int) (big : List Int → Bool) {a b : List (List Int)} {k : Nat} (h : b.length = k) : besTo both big a b k = besF both big a false b := by
  unfold besTo; rw [List.take_of_length_le (by omega)]
theorem besTo_succ (both : List Int → List Int → List Int) (big : List Int → Bool) {a b : List (List Int)} {k : Nat} (h : k < b.length) :
    besTo both big a b (k + 1) = (insF both (besTo both big a b k).1 (b.getD k []), (besTo both big a b k).2 || insBig both big (besTo both big a b k).1 (b.getD k [])) := by
  unfold besTo
  rw [take_getD h, bes_snoc]
theorem besTo_ins {both : List Int → List Int → List Int} {big : List Int → Bool} {a b acc : List (List Int)} {bad : Bool} {k i : Nat} {y : List Int} (hk : k < b.length) (hy : b.getD k [] = y) (hacc : besTo both big a b k = (acc, bad)) (hA : Ahead acc y i) (hne : i < acc.length → rg y 0 < rg (acc.getD i []) 0) :
    besTo both big a b (k + 1) = (acc.take i ++ y :: acc.drop i, bad) := by
  rw [besTo_succ both big hk, hacc, hy, ins_place both hA.1 hA.2 (fun h => by have := hne h; omega), insBig_place both big hA.1 hA.2 (fun h => by have := hne h; omega), if_neg (fun h => by have := hne h.1; omega), if_neg (fun h => by have := hne h.1; omega), Bool.or_false]
theorem besTo_both {both : List Int → List Int → List Int} {big : List Int → Bool} {a b acc : List (List Int)} {bad : Bool} {k i : Nat} {x y : List Int} (hk : k < b.length) (hy : b.getD k [] = y) (hacc : besTo both big a b k = (acc, bad)) (hA : Ahead acc y i) (hi : i < acc.length) (hx : acc.getD i [] = x) (he : rg x 0 = rg y 0) :
    besTo both big a b (k + 1) = (acc.set i (both x y), bad || big (both x y)) := by
  subst hx
  rw [besTo_succ both big hk, hacc, hy, ins_place both hA.1 hA.2 (fun h => by omega), insBig_place both big hA.1 hA.2 (fun h => by omega), if_pos ⟨hi, he⟩, if_pos ⟨hi, he⟩]
theorem set_self {acc : List (List Int)} {i : Nat} (hi : i < acc.length) {x : List Int} (hx : acc.getD i [] = x) : acc.set i x = acc := by
  rw [getD_at hi] at hx
  subst hx
  exact List.set_getElem_self hi
end Go.Gh
