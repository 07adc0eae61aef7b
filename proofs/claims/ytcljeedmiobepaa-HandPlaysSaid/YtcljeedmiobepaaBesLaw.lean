/-
  Insertion of rows one by one: by places in the list.
-/
import Derived.Test.YtcljeedmiobepaaRangeLaw
import Derived.Test.YtcljeedmiobepaaLib3
namespace Go.Gh
set_option linter.unusedVariables false

theorem bes_snoc (both : List Int → List Int → List Int) (big : List Int → Bool) (l : List (List Int)) : ∀ (out : List (List Int)) (bad : Bool) (y : List Int),
    besF both big out bad (l ++ [y]) = (insF both (besF both big out bad l).1 y, (besF both big out bad l).2 || insBig both big (besF both big out bad l).1 y) := by
  induction l with
  | nil => intro out bad y; rfl
  | cons x l ih => intro out bad y; rw [List.cons_append, besF, ih]; rfl
theorem split_at {acc : List (List Int)} {i : Nat} (h : i < acc.length) : acc = acc.take i ++ acc.getD i [] :: acc.drop (i + 1) := by
  rw [getD_at h, ← List.drop_eq_getElem_cons h, List.take_append_drop]
theorem take_mem {acc : List (List Int)} {i : Nat} {o : List Int} (h : o ∈ acc.take i) : ∃ t, t < i ∧ t < acc.length ∧ acc.getD t [] = o := by
  obtain ⟨t, ht, rfl⟩ := List.getElem_of_mem h
  rw [List.length_take] at ht
  exact ⟨t, by omega, by omega, by rw [getD_at (by omega), List.getElem_take]⟩
theorem ins_place (both : List Int → List Int → List Int) {acc : List (List Int)} {y : List Int} {i : Nat} (hi : i ≤ acc.length) (h1 : ∀ t, t < i → rg (acc.getD t []) 0 < rg y 0) (h2 : i < acc.length → ¬ rg (acc.getD i []) 0 < rg y 0) :
    insF both acc y = if i < acc.length ∧ rg (acc.getD i []) 0 = rg y 0 then acc.set i (both (acc.getD i []) y) else acc.take i ++ y :: acc.drop i := by
  have hp : ∀ o ∈ acc.take i, rg o 0 < rg y 0 := by
    intro o ho
    obtain ⟨t, ht, _, rfl⟩ := take_mem ho
    exact h1 t ht
  rcases Nat.lt_or_ge i acc.length with h | h
  · have e := split_at h
    have := ins_at both (acc.take i) (acc.getD i [] :: acc.drop (i + 1)) y hp (fun o r ho => by injection ho with h3 h4; rw [← h3]; exact h2 h)
    rw [← e] at this
    rw [this]
    by_cases hq : rg (acc.getD i []) 0 = rg y 0
    · rw [if_pos ⟨h, hq⟩, List.set_eq_take_append_cons_drop, if_pos h]
      simp only [if_pos hq]
    · rw [if_neg (fun h => hq h.2)]
      simp only [if_neg hq]
      rw [getD_at h, ← List.drop_eq_getElem_cons h]
  · rw [if_neg (fun h' => by omega)]
    have := ins_at both (acc.take i) [] y hp (fun o r ho => by cases ho)
    rw [List.append_nil] at this
    have e : acc.take i = acc := List.take_of_length_le h
    rw [e] at this
    rw [this, e, List.drop_of_length_le h]
theorem insBig_place (both : List Int → List Int → List Int) (big : List Int → Bool) {acc : List (List Int)} {y : List Int} {i : Nat} (hi : i ≤ acc.length) (h1 : ∀ t, t < i → rg (acc.getD t []) 0 < rg y 0) (h2 : i < acc.length → ¬ rg (acc.getD i []) 0 < rg y 0) :
    insBig both big acc y = if i < acc.length ∧ rg (acc.getD i []) 0 = rg y 0 then big (both (acc.getD i []) y) else false := by
  have hp : ∀ o ∈ acc.take i, rg o 0 < rg y 0 := by
    intro o ho
    obtain ⟨t, ht, _, rfl⟩ := take_mem ho
    exact h1 t ht
  rcases Nat.lt_or_ge i acc.length with h | h
  · have e := split_at h
    have := insBig_at both big (acc.take i) (acc.getD i [] :: acc.drop (i + 1)) y hp (fun o r ho => by injection ho with h3 h4; rw [← h3]; exact h2 h)
    rw [← e] at this
    rw [this]
    by_cases hq : rg (acc.getD i []) 0 = rg y 0
    · rw [if_pos ⟨h, hq⟩]
      simp only [if_pos hq]
    · rw [if_neg (fun h => hq h.2)]
      simp only [if_neg hq]
  · rw [if_neg (fun h' => by omega)]
    have := insBig_at both big (acc.take i) [] y hp (fun o r ho => by cases ho)
    rw [List.append_nil] at this
    have e : acc.take i = acc := List.take_of_length_le h
    rw [e] at this
    exact this
theorem RowsK.ins {k : Nat} {acc : List (List Int)} {y : List Int} (h : RowsK k acc) (hy : y.length = k) (i : Nat) : RowsK k (acc.take i ++ y :: acc.drop i) := by
  intro r hr
  rcases List.mem_append.1 hr with h' | h'
  · exact h r (List.mem_of_mem_take h')
  · rcases List.mem_cons.1 h' with h'' | h''
    · rw [h'']; exact hy
    · exact h r (List.mem_of_mem_drop h'')
theorem RowsK.set {k : Nat} {acc : List (List Int)} {y : List Int} (h : RowsK k acc) (hy : y.length = k) (i : Nat) : RowsK k (acc.set i y) := by
  intro r hr
  rcases List.mem_or_eq_of_mem_set hr with h' | h'
  · exact h r h'
  · rw [h']; exact hy
theorem ins_len {acc : List (List Int)} {y : List Int} {i : Nat} (hi : i ≤ acc.length) : (acc.take i ++ y :: acc.drop i).length = acc.length + 1 := by
  rw [List.length_append, List.length_cons, List.length_take, List.length_drop]; omega
theorem rowCells_ins (acc : List (List Int)) (y : List Int) (i : Nat) : rowCells (acc.take i ++ y :: acc.drop i) = rowCells (acc.take i) ++ (y.map (Value.int .i64) ++ rowCells (acc.drop i)) := by
  rw [rowCells_append]
  rfl
/-- How far an insertion has come: the first i are ahead of the row. -/
def Ahead (acc : List (List Int)) (y : List Int) (i : Nat) : Prop := i ≤ acc.length ∧ ∀ t, t < i → rg (acc.getD t []) 0 < rg y 0
theorem Ahead.zero (acc : List (List Int)) (y : List Int) : Ahead acc y 0 := ⟨Nat.zero_le _, fun t ht => by omega⟩
theorem Ahead.succ {acc : List (List Int)} {y : List Int} {i : Nat} (h : Ahead acc y i) (hi : i < acc.length) (hlt : rg (acc.getD i []) 0 < rg y 0) : Ahead acc y (i + 1) :=
  ⟨hi, fun t ht => by
    rcases Nat.lt_or_eq_of_le (Nat.le_of_lt_succ ht) with h' | h'
    · exact h.2 t h'
    · rw [h']; exact hlt⟩
/-- What the insertions come to, as far as they have gone. -/
def besTo (both : List Int → List Int → List Int) (big : List Int → Bool) (a b : List (List Int)) (k : Nat) : List (List Int) × Bool := besF both big a false (b.take k)
theorem besTo_zero (both : List Int → List Int → List Int) (big : List Int → Bool) (a b : List (List Int)) : besTo both big a b 0 = (a, false) := rfl
theorem besTo_all (both : List Int → List Int → List Int) (big : List Int → Bool) {a b : List (List Int)} {k : Nat} (h : b.length = k) : besTo both big a b k = besF both big a false b := by
  unfold besTo; rw [List.take_of_length_le (by omega)]
theorem besTo_succ (both : List Int → List Int → List Int) (big : List Int → Bool) {a b : List (List Int)} {k : Nat} (h : k < b.length) :
    besTo both big a b (k + 1) = (insF both (besTo both big a b k).1 (b.getD k []), (besTo both big a b k).2 || insBig both big (besTo both big a b k).1 (b.getD k [])) := by
  unfold besTo
  rw [take_getD h, bes_snoc]
theorem besTo_ins {both : List Int → List Int → List Int} {big : List Int → Bool} {a b acc : List (List Int)} {bad : Bool} {k i : Nat} {y : List Int} (hk : k < b.length) (hy : b.getD k [] = y) (hacc : besTo both big a b k = (acc, bad)) (hA : Ahead acc y i) (hne : i < acc.length → rg y 0 < rg (acc.getD i []) 0) :
    besTo both big a b (k + 1) = (acc.take i ++ y :: acc.drop i, bad) := by
  rw [besTo_succ both big hk, hacc, hy, ins_place both hA.1 hA.2 (fun h => by have := hne h; omega), insBig_place both big hA.1 hA.2 (fun h => by have := hne h; omega), if_neg (fun h => by have := hne h.1; omega), if_neg (fun h => by have := hne h.1; omega), Bool.or_false]
theorem besTo_both {both : List Int → List Int → List Int} {big : List Int → Bool} {a b acc : List (List Int)} {bad : Bool} {k i : Nat} {x y : List Int} (hk : k < b.length) (hy : b.getD k [] = y) (hacc : besTo both big a b k = (acc, bad)) (hA : Ahead acc y i) (hi : i < acc.length) (hx : acc.getD i [] = x) (he : rg x 0 = rg y 0) :
    besTo both big a b (k + 1) = (acc.set i (both x y), bad || big (both x y)) := by
  subst hx
  rw [besTo_succ both big hk, hacc, hy, ins_place both hA.1 hA.2 (fun h => by omega), insBig_place both big hA.1 hA.2 (fun h => by omega), if_pos ⟨hi, he⟩, if_pos ⟨hi, he⟩]
theorem set_self {acc : List (List Int)} {i : Nat} (hi : i < acc.length) {x : List Int} (hx : acc.getD i [] = x) : acc.set i x = acc := by
  rw [getD_at hi] at hx
  subst hx
  exact List.set_getElem_self hi
end Go.Gh
