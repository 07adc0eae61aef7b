/-
  Sets of numbers: strictly rising lists; what And, Or, Not answer, as plain functions.
-/
import Derived.Lib.SlicesCompact
namespace Go.Gh
set_option linter.unusedVariables false
/-- Strictly rising. -/
def Ris (l : List Int) : Prop := l.Pairwise (· < ·)
theorem ris_uniq : ∀ {a b : List Int}, Ris a → Ris b → (∀ x, x ∈ a ↔ x ∈ b) → a = b
  | [], [], _, _, _ => rfl
  | [], y :: b, _, _, h => by have := (h y).2 (by simp); simp at this
  | x :: a, [], _, _, h => by have := (h x).1 (by simp); simp at this
  | x :: a, y :: b, ha, hb, h => by
    obtain ⟨a1, a2⟩ := List.pairwise_cons.1 ha
    obtain ⟨b1, b2⟩ := List.pairwise_cons.1 hb
    have hxy : x = y := by
      have e1 : x ≤ y := by
        rcases List.mem_cons.1 ((h y).2 (by simp)) with h1 | h1
        · omega
        · have := a1 y h1; omega
      have e2 : y ≤ x := by
        rcases List.mem_cons.1 ((h x).1 (by simp)) with h1 | h1
        · omega
        · have := b1 x h1; omega
      omega
    subst hxy
    rw [ris_uniq a2 b2 (fun z => ?_)]
    have hz := h z
    simp only [List.mem_cons] at hz
    constructor
    · intro h1
      rcases hz.1 (Or.inr h1) with h2 | h2
      · have := a1 z h1; omega
      · exact h2
    · intro h1
      rcases hz.2 (Or.inr h1) with h2 | h2
      · have := b1 z h1; omega
      · exact h2
theorem ris_nodup {l : List Int} (h : Ris l) : l.Nodup := List.Pairwise.imp (fun {a b} h => by omega) h
theorem mem_upto (d : Array Int) : ∀ (m : Nat) (x : Int), x ∈ Lib.compactUpTo d m ↔ ∃ j, j < m ∧ d[j]! = x := by
  intro m x
  unfold Lib.compactUpTo
  simp only [List.mem_map, List.mem_filter, List.mem_range]
  constructor
  · rintro ⟨j, ⟨h1, -⟩, h2⟩
    exact ⟨j, h1, h2⟩
  · rintro ⟨j, h1, h2⟩
    have key : ∀ j, j < m → d[j]! = x → ∃ i, (i < m ∧ Lib.keeps d i = true) ∧ d[i]! = x := by
      intro j
      induction j with
      | zero => exact fun h1 h2 => ⟨0, ⟨h1, by simp [Lib.keeps]⟩, h2⟩
      | succ j ih =>
        intro h1 h2
        by_cases hk : Lib.keeps d (j + 1) = true
        · exact ⟨j + 1, ⟨h1, hk⟩, h2⟩
        · refine ih (by omega) ?_
          have : d[j + 1]! = d[j + 1 - 1]! := by
            by_cases he : d[j + 1]! = d[j + 1 - 1]!
            · exact he
            · exact absurd (Lib.keeps_pos he) hk
          rw [Nat.add_sub_cancel] at this
          rw [← this, h2]
    exact key j h1 h2
theorem ris_upto (d : Array Int) (hs : ∀ i j, i ≤ j → j < d.size → d[i]! ≤ d[j]!) : ∀ m, m ≤ d.size → Ris (Lib.compactUpTo d m)
  | 0, _ => List.Pairwise.nil
  | m + 1, hm => by
    have ih := ris_upto d hs m (by omega)
    rw [Lib.compactUpTo_succ]
    split
    · rename_i hk
      refine List.pairwise_append.2 ⟨ih, List.pairwise_singleton _ _, fun a ha b hb => ?_⟩
      obtain rfl : b = d[m]! := by simpa using hb
      obtain ⟨j, hj, rfl⟩ := (mem_upto d m a).1 ha
      have hm0 : 0 < m := by omega
      have h1 : d[m]! ≠ d[m - 1]! := by
        intro he
        rw [Lib.keeps_neg hm0 he] at hk
        simp at hk
      have h2 := hs j (m - 1) (by omega) (by omega)
      have h3 := hs (m - 1) m (by omega) (by omega)
      omega
    · rw [List.append_nil]
      exact ih
/-- The set of a list's numbers. -/
def setL (l : List Int) : List Int := Lib.compact (l.mergeSort fun x y => decide (x ≤ y))
theorem getb (l : List Int) (j : Nat) (h : j < l.length) : l.toArray[j]! = l[j] := by simp [getElem!_pos, h]
theorem mem_compact (l : List Int) (x : Int) : x ∈ Lib.compact l ↔ x ∈ l := by
  unfold Lib.compact
  rw [mem_upto]
  constructor
  · rintro ⟨j, h1, h2⟩
    rw [getb l j h1] at h2
    rw [← h2]
    exact List.getElem_mem h1
  · intro h
    obtain ⟨j, h1, h2⟩ := List.mem_iff_getElem.1 h
    exact ⟨j, h1, by rw [getb l j h1, h2]⟩
theorem mem_setL {l : List Int} {x : Int} : x ∈ setL l ↔ x ∈ l := by
  unfold setL
  rw [mem_compact, List.mem_mergeSort]
theorem srt_le2 (l : List Int) : (l.mergeSort fun x y => decide (x ≤ y)).Pairwise (· ≤ ·) := by
  have h := List.pairwise_mergeSort (le := fun x y : Int => decide (x ≤ y)) (fun a b c h1 h2 => by simp at h1 h2 ⊢; omega) (fun a b => by simp; omega) l
  exact h.imp (fun h => by simpa using h)
theorem ris_compact {l : List Int} (h : l.Pairwise (· ≤ ·)) : Ris (Lib.compact l) := by
  unfold Lib.compact
  refine ris_upto _ (fun i j hij hj => ?_) _ (by simp)
  have hj' : j < l.length := by simpa using hj
  rw [getb l i (by omega), getb l j hj']
  rcases Nat.lt_or_ge i j with h1 | h1
  · exact List.pairwise_iff_getElem.1 h i j (by omega) hj' h1
  · obtain rfl : i = j := by omega
    exact Int.le_refl _
theorem ris_setL (l : List Int) : Ris (setL l) := ris_compact (srt_le2 l)
theorem setL_len (l : List Int) : (setL l).length ≤ l.length := by
  have h : ∀ (d : Array Int) (m : Nat), (Lib.compactUpTo d m).length ≤ m := fun d m => by
    unfold Lib.compactUpTo
    rw [List.length_map]
    exact Nat.le_trans (List.length_filter_le _ _) (by simp)
  have := h (l.mergeSort fun x y => decide (x ≤ y)).toArray (l.mergeSort fun x y => decide (x ≤ y)).length
  rw [List.length_mergeSort] at this
  unfold setL Lib.compact
  rw [List.length_mergeSort]
  exact this
theorem compact_len (l : List Int) : (Lib.compact l).length ≤ l.length := by
  unfold Lib.compact Lib.compactUpTo
  rw [List.length_map]
  exact Nat.le_trans (List.length_filter_le _ _) (by simp)
/-- In both, out of two sets. -/
def andL : List Int → List Int → List Int
  | [], _ => []
  | _ :: _, [] => []
  | x :: a, y :: b => if x < y then andL a (y :: b) else if y < x then andL (x :: a) b else x :: andL a b
termination_by a b => a.length + b.length
theorem andL_nil {a : List Int} : andL a [] = [] := by cases a <;> rw [andL]
theorem mem_andL : ∀ (a b : List Int), Ris a → Ris b → ∀ z, z ∈ andL a b ↔ (z ∈ a ∧ z ∈ b)
  | [], b, _, _, z => by rw [andL]; simp
  | x :: a, [], _, _, z => by rw [andL]; simp
  | x :: a, y :: b, ha, hb, z => by
    obtain ⟨a1, a2⟩ := List.pairwise_cons.1 ha
    obtain ⟨b1, b2⟩ := List.pairwise_cons.1 hb
    rw [andL]
    split
    · rename_i h
      rw [mem_andL a (y :: b) a2 hb z]
      simp only [List.mem_cons]
      constructor
      · rintro ⟨h1, h2⟩; exact ⟨Or.inr h1, h2⟩
      · rintro ⟨h1 | h1, h2⟩
        · subst h1
          rcases h2 with h2 | h2
          · omega
          · have := b1 _ h2; omega
        · exact ⟨h1, h2⟩
    · split
      · rename_i hq h
        rw [mem_andL (x :: a) b ha b2 z]
        simp only [List.mem_cons]
        constructor
        · rintro ⟨h1, h2⟩; exact ⟨h1, Or.inr h2⟩
        · rintro ⟨h1, h2 | h2⟩
          · subst h2
            rcases h1 with h3 | h3
            · omega
            · have := a1 _ h3; omega
          · exact ⟨h1, h2⟩
      · rename_i h1 h2
        obtain rfl : x = y := by omega
        simp only [List.mem_cons, mem_andL a b a2 b2 z]
        constructor
        · rintro (h | ⟨h, h'⟩)
          · exact ⟨Or.inl h, Or.inl h⟩
          · exact ⟨Or.inr h, Or.inr h'⟩
        · rintro ⟨h | h, h' | h'⟩
          · exact Or.inl h
          · exact Or.inl h
          · exact Or.inl h'
          · exact Or.inr ⟨h, h'⟩
termination_by a b => a.length + b.length
theorem ris_andL : ∀ (a b : List Int), Ris a → Ris b → Ris (andL a b)
  | [], b, _, _ => by rw [andL]; exact List.Pairwise.nil
  | x :: a, [], _, _ => by rw [andL]; exact List.Pairwise.nil
  | x :: a, y :: b, ha, hb => by
    obtain ⟨a1, a2⟩ := List.pairwise_cons.1 ha
    obtain ⟨b1, b2⟩ := List.pairwise_cons.1 hb
    rw [andL]
    split
    · exact ris_andL a (y :: b) a2 hb
    · split
      · exact ris_andL (x :: a) b ha b2
      · exact List.pairwise_cons.2 ⟨fun z hz => a1 z ((mem_andL a b a2 b2 z).1 hz).1, ris_andL a b a2 b2⟩
termination_by a b => a.length + b.length
theorem andL_len : ∀ (a b : List Int), (andL a b).length ≤ a.length
  | [], b => by rw [andL]; exact Nat.le_refl _
  | x :: a, [] => by rw [andL]; exact Nat.zero_le _
  | x :: a, y :: b => by
    rw [andL]
    split
    · have := andL_len a (y :: b); rw [List.length_cons]; omega
    · split
      · exact andL_len (x :: a) b
      · have := andL_len a b; rw [List.length_cons, List.length_cons]; omega
termination_by a b => a.length + b.length
/-- The numbers below n that are not in a list. -/
def notTo (a : List Int) : Nat → List Int
  | 0 => []
  | j + 1 => if (j : Int) ∈ a then notTo a j else notTo a j ++ [(j : Int)]
theorem notTo_len (a : List Int) : ∀ j, (notTo a j).length ≤ j
  | 0 => Nat.le_refl _
  | j + 1 => by
    have := notTo_len a j
    rw [notTo]
    split
    · omega
    · rw [List.length_append, List.length_singleton]; omega
theorem notTo_eq {a b : List Int} (h : ∀ x, x ∈ a ↔ x ∈ b) : ∀ j, notTo a j = notTo b j
  | 0 => rfl
  | j + 1 => by
    rw [notTo, notTo, notTo_eq h j]
    by_cases h1 : (j : Int) ∈ a
    · rw [if_pos h1, if_pos ((h _).1 h1)]
    · rw [if_neg h1, if_neg (fun h2 => h1 ((h _).2 h2))]
/-- The reference's two lists, each number once. -/
def orS (o : List Int) (x : Int) : List Int := if x ∈ o then o else o ++ [x]
def orTo (l : List Int) (j : Nat) : List Int := (l.take j).foldl orS []
def anS (a b : List Int) (p : List Int × List Int) (x : Int) : List Int × List Int := if x ∈ p.1 then p else (p.1 ++ [x], if x ∈ a ∧ x ∈ b then p.2 ++ [x] else p.2)
def anTo (a b l : List Int) (j : Nat) : List Int × List Int := (l.take j).foldl (anS a b) ([], [])
theorem anTo_step {a b l : List Int} {j : Nat} {x : Int} (h : l[j]? = some x) : anTo a b l (j + 1) = anS a b (anTo a b l j) x := by
  obtain ⟨h1, h2⟩ := List.getElem?_eq_some_iff.1 h
  unfold anTo
  rw [List.take_succ_eq_append_getElem h1, h2, List.foldl_append]
  rfl
theorem anTo_spec (a b l : List Int) : ∀ j, j ≤ l.length → (∀ z, z ∈ (anTo a b l j).1 ↔ z ∈ l.take j) ∧ (∀ z, z ∈ (anTo a b l j).2 ↔ (z ∈ l.take j ∧ z ∈ a ∧ z ∈ b)) ∧ (anTo a b l j).1.Nodup ∧ (anTo a b l j).2.Nodup ∧ (anTo a b l j).1.length ≤ j ∧ (anTo a b l j).2.length ≤ j
  | 0, _ => ⟨fun z => by simp [anTo], fun z => by simp [anTo], List.nodup_nil, List.nodup_nil, Nat.le_refl _, Nat.le_refl _⟩
  | j + 1, hj => by
    obtain ⟨i1, i2, i3, i4, i5, i6⟩ := anTo_spec a b l j (by omega)
    obtain ⟨x, hx⟩ : ∃ x, l[j]? = some x := ⟨_, List.getElem?_eq_getElem (by omega)⟩
    obtain ⟨h1, h2⟩ := List.getElem?_eq_some_iff.1 hx
    rw [anTo_step hx, List.take_succ_eq_append_getElem h1, h2]
    generalize anTo a b l j = p at *
    unfold anS
    by_cases hm : x ∈ p.1
    · rw [if_pos hm]
      have hx2 := (i1 x).1 hm
      refine ⟨fun z => ?_, fun z => ?_, i3, i4, by omega, by omega⟩
      · rw [i1 z, List.mem_append]
        exact ⟨Or.inl, fun h => h.elim id (fun h => by rw [List.mem_singleton.1 h]; exact hx2)⟩
      · rw [i2 z, List.mem_append]
        exact ⟨fun h => ⟨Or.inl h.1, h.2⟩, fun h => ⟨h.1.elim id (fun h => by rw [List.mem_singleton.1 h]; exact hx2), h.2⟩⟩
    · rw [if_neg hm]
      have hn : x ∉ l.take j := fun h => hm ((i1 x).2 h)
      have hn2 : x ∉ p.2 := fun h => hn ((i2 x).1 h).1
      refine ⟨fun z => ?_, fun z => ?_, ?_, ?_, ?_, ?_⟩
      · rw [List.mem_append, List.mem_append, i1 z]
      · dsimp only
        split
        · rename_i hab
          rw [List.mem_append, List.mem_append, i2 z]
          constructor
          · rintro (h | h)
            · exact ⟨Or.inl h.1, h.2⟩
            · obtain rfl : z = x := by simpa using h
              exact ⟨Or.inr h, hab⟩
          · rintro ⟨h | h, h'⟩
            · exact Or.inl ⟨h, h'⟩
            · exact Or.inr h
        · rename_i hab
          rw [List.mem_append, i2 z]
          constructor
          · intro h; exact ⟨Or.inl h.1, h.2⟩
          · rintro ⟨h | h, h'⟩
            · exact ⟨h, h'⟩
            · obtain rfl : z = x := by simpa using h
              exact absurd h' hab
      · exact List.nodup_append.2 ⟨i3, (List.pairwise_singleton _ _), fun u hu v hv e => by
          obtain rfl : v = x := by simpa using hv
          exact hm (e ▸ hu)⟩
      · dsimp only
        split
        · exact List.nodup_append.2 ⟨i4, (List.pairwise_singleton _ _), fun u hu v hv e => by
            obtain rfl : v = x := by simpa using hv
            exact hn2 (e ▸ hu)⟩
        · exact i4
      · rw [List.length_append, List.length_singleton]; omega
      · dsimp only
        split
        · rw [List.length_append, List.length_singleton]; omega
        · omega
/-- A list without doubles, sorted, rises strictly. -/
theorem ris_sort {l : List Int} (h : l.Nodup) : Ris (l.mergeSort fun x y => decide (x ≤ y)) := by
  have h1 := srt_le2 l
  have h2 : (l.mergeSort fun x y => decide (x ≤ y)).Nodup := ((List.mergeSort_perm l _).nodup_iff).2 h
  exact (h1.and h2).imp (fun {a b} h => by omega)
theorem and_same (a b : List Int) : andL (setL a) (setL b) = ((anTo a b (a ++ b) (a ++ b).length).2).mergeSort fun x y => decide (x ≤ y) := by
  obtain ⟨i1, i2, i3, i4, -, -⟩ := anTo_spec a b (a ++ b) _ (Nat.le_refl _)
  refine ris_uniq (ris_andL _ _ (ris_setL a) (ris_setL b)) (ris_sort i4) (fun z => ?_)
  rw [mem_andL _ _ (ris_setL a) (ris_setL b), mem_setL, mem_setL, List.mem_mergeSort, i2, List.take_length, List.mem_append]
  exact ⟨fun h => ⟨Or.inl h.1, h⟩, fun h => h.2⟩
theorem or_same (a b : List Int) : setL (a ++ b) = ((anTo a b (a ++ b) (a ++ b).length).1).mergeSort fun x y => decide (x ≤ y) := by
  obtain ⟨i1, i2, i3, i4, -, -⟩ := anTo_spec a b (a ++ b) _ (Nat.le_refl _)
  refine ris_uniq (ris_setL _) (ris_sort i3) (fun z => ?_)
  rw [mem_setL, List.mem_mergeSort, i1, List.take_length]
end Go.Gh
