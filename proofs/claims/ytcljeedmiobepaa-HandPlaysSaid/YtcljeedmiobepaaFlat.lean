/-
  Lists of cells: of a list of things that have so many cells each.
-/
namespace Go.Gh
theorem flat_len {α β : Type} (f : α → List β) (size : Nat) (hf : ∀ a, (f a).length = size) (l : List α) : (l.flatMap f).length = l.length * size := by
  induction l with
  | nil => simp
  | cons a l ih => rw [List.flatMap_cons, List.length_append, hf, ih, List.length_cons, Nat.succ_mul, Nat.add_comm]
theorem flat_get {α β : Type} (f : α → List β) (size : Nat) (hf : ∀ a, (f a).length = size) (l : List α) (i j : Nat) (hi : i < l.length) (hj : j < size) :
    (l.flatMap f)[i * size + j]? = (f l[i])[j]? := by
  induction l generalizing i with
  | nil => simp at hi
  | cons a l ih =>
    rw [List.flatMap_cons]
    cases i with
    | zero => rw [Nat.zero_mul, Nat.zero_add, List.getElem?_append_left (by rw [hf]; exact hj)]; rfl
    | succ i =>
      rw [Nat.succ_mul, List.getElem?_append_right (by rw [hf]; omega), hf, show i * size + size + j - size = i * size + j from by omega]
      exact ih i (by simpa using hi)
theorem flat_take {α β : Type} (f : α → List β) (size : Nat) (hf : ∀ a, (f a).length = size) (l : List α) (n : Nat) (h : n ≤ l.length) : (l.take n).flatMap f = (l.flatMap f).take (n * size) := by
  induction l generalizing n with
  | nil => simp
  | cons a l ih =>
    cases n with
    | zero => simp
    | succ n =>
      rw [List.take_succ_cons, List.flatMap_cons, List.flatMap_cons, ih n (by simpa using h), Nat.succ_mul, Nat.add_comm, List.take_append, hf, List.take_of_length_le (l := f a) (by rw [hf]; omega), show size + n * size - size = n * size from by omega]
end Go.Gh
