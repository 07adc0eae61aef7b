/-
  Sets of numbers: strictly rising lists; what And, Or, Not answer, as plain functions.
-/
import Derived.Lib.SlicesCompact
namespace Go.Gh
set_option linter.unusedVariables false
/-- Strictly rising. -/
def Ris (l : List Int) : Prop := l.Pairwise (· < ·)
theorem ris_uniq : ∀ {a b : List Int}, Ris a → Ris b → (∀ x, x ∈ a ↔ x ∈ b) → a = b
  | [], [], _, _, _ => rfl
  | [], y :: b, _, _, h => by have := (h y).2 (by simp); simp at this
  | x :: a, [], _, _, h => by have := (h x).1 (by simp); simp at this
  | x :: a, y :: b, ha, hb, h => by
    obtain ⟨a1, a2⟩ := List.pairwise_cons.1 ha
    obtain ⟨b1, b2⟩ := List.pairwise_cons.1 hb
    have hxy : x = y := by
      have e1 : x ≤ y := by
        rcases List.mem_cons.1 ((h y).2 (by simp)) with h1 | h1
        · omega
        · have := a1 y h1; omega
      have e2 : y ≤ x := by
        rcases List.mem_cons.1 ((h x).1 (by simp)) with h1 | h1
        · omega
        · have := b1 x h1; omega
      omega
    subst hxy
    rw [ris_uniq a2 b2 (fun z => ?_)]
    have hz := h z
    simp only [List.mem_cons] at hz
    constructor
    · intro h1
      rcases hz.1 (Or.inr h1) with h2 | h2
      · have := a1 z h1; omega
      · exact h2
    · intro h1
      rcases hz.2 (Or.inr h1) with h2 | h2
      · have := b1 z h1; omega
      · exact h2
theorem ris_nodup {l : List Int} (h : Ris l) : l.Nodup := List.Pairwise.imp (fun {a b} h => by omega) h
theorem mem_upto (d : Array Int) : ∀ (m : Nat) (x : Int), x ∈ Lib.compactUpTo d m ↔ ∃ j, j < m ∧ d[j]! = x := by
  intro m x
  unfold Lib.compactUpTo
  simp only [List.mem_map, List.mem_filter, List.mem_range]
  constructor
  · rintro ⟨j, ⟨h1, -⟩, h2⟩
    exact ⟨j, h1, h2⟩
  · rintro ⟨j, h1, h2⟩
    have key : ∀ j, j < m → d[j]! = x → ∃ i, (i < m ∧ Lib.keeps d i = true) ∧ d[i]! = x := by
      intro j
      induction j with
      | zero => exact fun h1 h2 => ⟨0, ⟨h1, by simp [Lib.keeps]⟩, h2⟩
      | succ j ih =>
        intro h1 h2
        by_cases hk : Lib.keeps d (j + 1) = true
        · exact ⟨j + 1, ⟨h1, hk⟩, h2⟩
        · refine ih (by omega) ?_
          have : d[j + 1]! = d[j + 1 - 1]! := by
            by_cases he : d[j + 1]! = d[j + 1 - 1]!
            · exact he
            · exact absurd (Lib.keeps_pos he) hk
          rw [Nat.add_sub_cancel] at this
          rw [← this, h2]
    exact key j h1 h2
theorem ris_upto (d : Array Int) (hs : ∀ i j, i ≤ j → j < d.size → d[i]! ≤ d[j]!) : ∀ m, m ≤ d.size → Ris (Lib.compactUpTo d m)
  | 0, _ => List.Pairwise.nil
  | m + 1, hm => by
    have ih := ris_upto d hs m (by omega)
    rw [Lib.compactUpTo_succ]
    split
    · rename_i hk
      refine List.pairwise_append.2 ⟨ih, List.pairwise_singleton _ _, fun a ha b hb => ?_⟩
      obtain rfl : b = d[m]! := by simpa using hb
      obtain ⟨j, hj, rfl⟩ := (mem_upto d m a).1 ha
      have hm0 : 0 < m := by omega
      have h1 : d[m]! ≠ d[m - 1]! := by
        intro he
        rw [Lib.keeps_neg hm0 he] at hk
        simp at hk
      have h2 := hs j (m - 1) (by omega) (by omega)
      have h3 := hs (m - 1) m (by omega) (by omega)
      omega
    · rw [List.append_nil]
      exact ih
/-- The set of a list's numbers. -/
def setL (l : List Int) : List Int := Lib.compact (l.mergeSort fun x y => decide (x ≤ y))
theorem getb (l : List Int) (j : Nat) (h : j < l.length) : l.toArray[j]! = l[j] := by simp [getElem!_pos, h]
theorem mem_compact (l : List Int) (x : Int) : x ∈ Lib.compact l ↔ x ∈ l := by
  unfold Lib.compact
  rw [mem_upto]
  constructor
  · rintro ⟨j, h1, h2⟩
    rw [getb l j h1] at h2
    rw [← h2]
    exact List.getElem_mem h1
  · intro h
    obtain ⟨j, h1, h2⟩ := List.mem_iff_getElem.1 h
    exact ⟨j, h1, by rw [getb l j h1, h2]⟩
theorem mem_setL {l : List Int} {x : Int} : x ∈ setL l ↔ x ∈ l := by
  unfold setL
  rw [mem_compact, List.mem_mergeSort]
theorem srt_le2 (l : List Int) : (l.mergeSort fun x y => decide (x ≤ y)).Pairwise (· ≤ ·) := by
  have h := List.pairwise_mergeSort (le := fun x y : Int => decide (x ≤ y)) (fun a b c h1 h2 => by simp at h1 h2 ⊢; omega) (fun a b => by simp; omega) l
  exact h.imp (fun h => by simpa using h)
theorem ris_compact {l : List Int} (h : l.Pairwise (· ≤ ·)) : Ris (Lib.compact l) := by
  unfold Lib.compact
  refine ris_upto _ (fun i j hij hj => ?_) _ (by simp)
  have hj' : j < l.length := by simpa using hj
  rw [getb l i (by omega), getb l j hj']
  rcases Nat.lt_or_ge i j with h1 | h1
  · exact List.pairwise_iff_getElem.1 h i j (by omega) hj' h1
  · obtain rfl : i = j := by omega
    exact Int.le_refl _
theorem ris_setL (l : List Int) : Ris (setL l) := ris_compact (srt_le2 l)
theorem setL_len (l : List Int) : (setL l).length ≤ l.length := by
  have h : ∀ (d : Array Int) (m : Nat), (Lib.compactUpTo d m).length ≤ m := fun d m => by
    unfold Lib.compactUpTo
    rw [List.length_map]
    exact Nat.le_trans (List.length_filter_le _ _) (by simp)
  have := h (l.mergeSort fun x y => decide (x ≤ y)).toArray (l.mergeSort fun x y => decide (x ≤ y)).length
  rw [List.length_mergeSort] at this
  unfold setL Lib.compact
  rw [List.length_mergeSort]
  exact this
theorem compact_len (l : List Int) : (Lib.compact l).length ≤ l.length := by
  unfold Lib.compact Lib.compactUpTo
  rw [List.length_map]
  exact Nat.le_trans (List.length_filter_le _ _) (by simp)
/-- In both, out of two sets. -/
def andL : List Int → List Int → List Int
  | [], _ => []
  | _ :: _, [] => []
  | x :: a, y :: b => if x < y then andL a (y :: b) else if y < x then andL (x :: a) b else x :: andL a b
termination_by a b => a.length + b.length
theorem andL_nil {a : List Int} : andL a [] = [] := by cases a <;> rw [andL]
theorem mem_andL : ∀ (a b : List Int), Ris a → Ris b → ∀ z, z ∈ andL a b ↔ (z ∈ a ∧ z ∈ b)
  | [], b, _, _, z => by rw [andL]; simp
  | x :: a, [], _, _, z => by rw [andL]; simp
  | x :: a, y :: b, ha, hb, z => by
    obtain ⟨a1, a2⟩ := List.pairwise_cons.1 ha
    obtain ⟨b1, b2⟩ := List.pairwise_cons.1 hb
    rw [andL]
    split
    · rename_i h
      rw [mem_andL a (y :: b) a2 hb z]
      simp only [List.mem_cons]
      constructor
      · rintro ⟨h1, h2⟩; exact ⟨Or.inr h1, h2⟩
      · rintro ⟨h1 | h1, h2⟩
        · subst h1
          rcases h2 with h2 | h2
          · omega
          · have := b1 _ h2; omega
        · exact ⟨h1, h2⟩
    · split
      · rename_i hq h
        rw [mem_andL (x :: a) b ha b2 z]
        simp only [List.mem_cons]
        constructor
        · rintro ⟨h1, h2⟩; exact ⟨h1, Or.inr h2⟩
        · rintro ⟨h1, h2 | h2⟩
          · subst h2
            rcases h1 with h3 | h3
            · omega
            · have := a1 _ h3; omega
          · exact ⟨h1, h2⟩
      · rename_i h1 h2
        obtain rfl : x = y := by omega
        simp only [List.mem_cons, mem_andL a b a2 b2 z]
        constructor
        · rintro (h | ⟨h, h'⟩)
          · exact ⟨Or.inl h, Or.inl h⟩
          · exact ⟨Or.inr h, Or.inr h'⟩
        · rintro ⟨h | h, h' | h'⟩
          · exact Or.inl h
          · exact Or.inl h
          · exact Or.inl h'
          · exact Or.inr ⟨h, h'⟩
termination_by a b => a.length + b.length
theorem ris_andL : ∀ (a b : List Int), Ris a → Ris b → Ris (andL a b)
  | [], b, _, _ => by rw [andL]; exact List.Pairwise.nil
  | x :: a, [], _, _ => by rw [andL]; exact List.Pairwise.nil
  | x :: a, y :: b, ha, hb => by
    obtain ⟨a1, a2⟩ := List.pairwise_cons.1 ha
    obtain ⟨b1, b2⟩ := List.pairwise_cons.1 hb
    rw [andL]
    split
    · exact ris_andL a (y :: b) a2 hb
    · split
      · exact ris_andL (x :: a) b ha b2
      · exact List.pairwise_cons.2 ⟨fun z hz => a1 z ((mem_andL a b a2 b2 z).1 hz).1, ris_andL a b a2 b2⟩
termination_by a b => a.length + b.length
theorem andL_len : ∀ (a b : List Int), (andL a b).length ≤ a.length
  | [], b => by rw [andL]; exact Nat.le_refl _
  | x :: a, [] => by rw [andL]; exact Nat.zero_le _
  | x :: a, y :: b => by
    rw [andL]
    split
    · have := andL_len a (y :: b); rw [List.length_cons]; omega
    · split
      · exact andL_len (x :: a) b
      · have := andL_len a b; rw [List.length_cons, List.length_cons]; omega
termination_by a b => a.length + b.length
/-- The numbers below n that are not in a list. -/
def notTo (a : List Int) : Nat → List Int
  | 0 => []
  | j + 1 => if (j : Int) ∈ a then notTo a j else notTo a j ++ [(j : Int)]
theorem notTo_len (a : List Int) : ∀ j, (notTo a j).length ≤ j
  | 0 => Nat.le_refl _
  | j + 1 => by
    have := notTo_len a j
    rw [notTo]
    split
    · omega
    · rw [List.length_append, List.length_singleton]; omega
theorem notTo_eq {a b : List Int} (h : ∀ x, x ∈ a ↔ x ∈ b) : ∀ j, notTo a j = notTo b j
  | 0 => rfl
  | j + 1 => by
    rw [notTo, notTo, notTo_eq h j]
    by_cases h1 : (j : Int) ∈ a
    · rw [if_pos h1, if_pos ((h _).1 h1)]
    · rw [if_neg h1, if_neg (fun h2 => h1 ((h _).2 h2))]
/-- The reference's two lists, each number once. -/
def orS (o : List Int) (x : Int) : List Int := if x ∈ o then o else o ++ [x]
def orTo (l : List Int) (j : Nat) : List Int := (l.take j).foldl orS []
def anS (a b : List Int) (p : List Int × List Int) (x : Int) : List Int × List Int := if x ∈ p.1 then p else (p.1 ++ [x], if x ∈ a ∧ x ∈ b then p.2 ++ [x] else p.2)
def anTo (a b l : List Int) (j : Nat) : List Int × List Int := (l.take j).foldl (anS a b) ([], [])
theorem anTo_step {a b l : List Int} {j : Nat} {x : Int} (h : l[j]? = some x) : anTo a b l (j + 1) = anS a b (anTo a b l j) x := by
  obtain ⟨h1, h2⟩ := List.getElem?_eq_some_iff.1 h
  unfold anTo
  rw [List.take_succ_eq_append_getElem h1, h2, List.foldl_append]
  rfl
theorem anTo_spec (a b l : List Int) : ∀ j, j ≤ l.length → (∀ z, z ∈ (anTo a b l j).1 ↔ z ∈ l.take j) ∧ (∀ z, z ∈ (anTo a b l j).2 ↔ (z ∈ l.take j ∧ z ∈ a ∧ z ∈ b)) ∧ (anTo a b l j).1.Nodup ∧ (anTo a b l j).2.Nodup ∧ (anTo a b l j).1.length ≤ j ∧ (anTo a b l j).2.length ≤ j
  | 0, _ => ⟨fun z => by simp [anTo], fun z => by simp [anTo], List.nodup_nil, List.nodup_nil, Nat.le_refl _, Nat.le_refl _⟩
  | j + 1, hj => by
    obtain ⟨i1, i2, i3, i4, i5, i6⟩ := anTo_spec a b l j (by omega)
    obtain ⟨x, hx⟩ : ∃ x, l[j]? = some x := ⟨_, List.getElem?_eq_getElem (by omega)⟩
    obtain ⟨h1, h2⟩ := List.getElem?_eq_some_iff.1 hx
    rw [anTo_step hx, List.take_succ_eq_append_getElem h1, h2]
    generalize anTo a b l j = p at *
    unfold anS
    by_cases hm : x ∈ p.1
    · rw [if_pos hm]
      have hx2 := (i1 x).1 hm
      refine ⟨fun z => ?_, fun z => ?_, i3, i4, by omega, by omega⟩
      · rw [i1 z, List.mem_append]
        exact ⟨Or.inl, fun h => h.elim id (fun h => by rw [List.mem_singleton.1 h]; exact hx2)⟩
      · rw [i2 z, List.mem_append]
        exact ⟨fun h => ⟨Or.inl h.1, h.2⟩, fun h => ⟨h.1.elim id (fun h => by rw [List.mem_singleton.1 h]; exact hx2), h.2⟩⟩
    · rw [if_neg hm]
      have hn : x ∉ l.take j := fun h => hm ((i1 x).2 h)
      have hn2 : x ∉ p.2 := fun h => hn ((i2 x).1 h).1
      refine ⟨fun z => ?_, fun z => ?_, ?_, ?_, ?_, ?_⟩
      · rw [List.mem_append, List.mem_append, i1 z]
      · dsimp only
        split
        · rename_i hab
          rw [List.mem_append, List.mem_append, i2 z]
          constructor
          · rintro (h | h)
            · exact ⟨Or.inl h.1, h.2⟩
            · obtain rfl : z = x := by simpa using h
              exact ⟨Or.inr h, hab⟩
          · rintro ⟨h | h, h'⟩
            · exact Or.inl ⟨h, h'⟩
            · exact Or.inr h
        · rename_i hab
          rw [List.mem_append, i2 z]
          constructor
          · intro h; exact ⟨Or.inl h.1, h.2⟩
          · rintro ⟨h | h, h'⟩
            · exact ⟨h, h'⟩
            · obtain rfl : z = x := by simpa using h
              exact absurd h' hab
      · exact List.nodup_append.2 ⟨i3, (List.pairwise_singleton _ _), fun u hu v hv e => by
          obtain rfl : v = x := by simpa using hv
          exact hm (e ▸ hu)⟩
      · dsimp only
        split
        · exact List.nodup_append.2 ⟨i4, (List.pairwise_singleton _ _), fun u hu v hv e => by
            obtain rfl : v = x := by simpa using hv
            exact hn2 (e ▸ hu)⟩
        · exact i4
      · rw [List.length_append, List.length_singleton]; omega
      · dsimp only
        split
        · rw [List.length_append, List.length_singleton]; omega
        · omega
/-- A list without doubles, sorted, rises strictly. -/
theorem ris_sort {l : List Int} (h : l.Nodup) : Ris (l.mergeSort fun x y => decide (x ≤ y)) := by
  have h1 := srt_le2 l
  have h2 : (l.mergeSort fun x y => decide (x ≤ y)).Nodup := ((List.mergeSort_perm l _).nodup_iff).2 h
  exact (h1.and h2).imp (fun {a b} h => by omega)
theorem and_same (a b : List Int) : andL (setL a) (setL b) = ((anTo a b (a ++ b) (a ++ b).length).2).mergeSort fun x y => decide (x ≤ y) := by
  obtain ⟨i1, i2, i3, i4, -, -⟩ := anTo_spec a b (a ++ b) _ (Nat.le_refl _)
  refine ris_uniq (ris_andL _ _ (ris_setL a) (ris_setL b)) (ris_sort i4) (fun z => ?_)
  rw [mem_andL _ _ (ris_setL a) (ris_setL b), mem_setL, mem_setL, List.mem_mergeSort, i2, List.take_length, List.mem_append]
  exact ⟨fun h => ⟨Or.inl h.1, h⟩, fun h => h.2⟩
theorem or_same (a b : List Int) : setL (a ++ b) = ((anTo a b (a ++ b) (a ++ b).length).1).mergeSort fun x y => decide (x ≤ y) := by
  obtain ⟨i1, i2, i3, i4, -, -⟩ := anTo_spec a b (a ++ b) _ (Nat.le_refl _)
  refine ris_uniq (ris_setL _) (ris_sort i3) (fun z => ?_)
  rw [mem_setL, List.mem_mergeSort, i1, List.take_length]
end Go.Gh
/-
  Sieves of least numbers: as plain functions.
-/
namespace Go.Gh
set_option linter.unusedVariables false
set_option linter.unusedSimpArgs false
/-- A sieve: how many, and the numbers. -/
structure Ls where
  k : Int
  h : List Int
def risB : List Int → Bool
  | [] => true
  | [_] => true
  | x :: y :: r => decide (x < y) && risB (y :: r)
theorem risB_ris : ∀ {l : List Int}, risB l = true → Ris l
  | [], _ => List.Pairwise.nil
  | [x], _ => List.pairwise_singleton _ _
  | x :: y :: r, h => by
    unfold risB at h
    simp only [Bool.and_eq_true, decide_eq_true_eq] at h
    have ih := risB_ris h.2
    refine List.pairwise_cons.2 ⟨fun z hz => ?_, ih⟩
    rcases List.mem_cons.1 hz with rfl | hz
    · exact h.1
    · have := (List.pairwise_cons.1 ih).1 z hz
      omega
/-- Risen so far. -/
def RisK (l : List Int) (k : Nat) : Prop := ∀ i x y, i + 1 < k → l[i]? = some x → l[i + 1]? = some y → x < y
theorem risB_all : ∀ {l : List Int}, (∀ i x y, l[i]? = some x → l[i + 1]? = some y → x < y) → risB l = true
  | [], _ => rfl
  | [x], _ => rfl
  | x :: y :: r, h => by
    unfold risB
    simp only [Bool.and_eq_true, decide_eq_true_eq]
    exact ⟨h 0 x y rfl rfl, risB_all (fun i a b h1 h2 => h (i + 1) a b (by simpa using h1) (by simpa using h2))⟩
theorem risB_not {l : List Int} {i : Nat} {x y : Int} (h1 : l[i]? = some x) (h2 : l[i + 1]? = some y) (h : ¬ x < y) : risB l = false := by
  by_cases hr : risB l = true
  · exfalso
    have := risB_ris hr
    obtain ⟨a1, rfl⟩ := List.getElem?_eq_some_iff.1 h1
    obtain ⟨a2, rfl⟩ := List.getElem?_eq_some_iff.1 h2
    exact h (List.pairwise_iff_getElem.1 this i (i + 1) a1 a2 (by omega))
  · simpa using hr
def lsF (s : Ls) : Int := if s.k < 2 ∨ 64 < s.k ∨ s.k < s.h.length then 4 else if risB s.h = true then 0 else 4
theorem lsF_ok {s : Ls} (h : lsF s = 0) : 2 ≤ s.k ∧ s.k ≤ 64 ∧ (s.h.length : Int) ≤ s.k ∧ Ris s.h := by
  unfold lsF at h
  split at h
  · exact absurd h (by decide)
  · rename_i h1
    split at h
    · rename_i h2
      exact ⟨by omega, by omega, by omega, risB_ris h2⟩
    · exact absurd h (by decide)
/-- A number more. -/
def insU (S : List Int) (h : Int) : List Int := S.filter (fun x => decide (x < h)) ++ (h :: S.filter (fun x => decide (h < x)))
theorem mem_insU {S : List Int} {h x : Int} : x ∈ insU S h ↔ x ∈ S ++ [h] := by
  unfold insU
  simp only [List.mem_append, List.mem_cons, List.mem_filter, decide_eq_true_eq, List.not_mem_nil, or_false]
  constructor
  · rintro (h1 | rfl | h1)
    · exact Or.inl h1.1
    · exact Or.inr rfl
    · exact Or.inl h1.1
  · rintro (h1 | rfl)
    · by_cases e : x < h
      · exact Or.inl ⟨h1, e⟩
      · by_cases e2 : h < x
        · exact Or.inr (Or.inr ⟨h1, e2⟩)
        · exact Or.inr (Or.inl (by omega))
    · exact Or.inr (Or.inl rfl)
theorem ris_insU {S : List Int} {h : Int} (hs : Ris S) : Ris (insU S h) := by
  unfold insU Ris
  refine List.pairwise_append.2 ⟨List.Pairwise.filter _ hs, List.pairwise_cons.2 ⟨fun y hy => ?_, List.Pairwise.filter _ hs⟩, fun a ha b hb => ?_⟩
  · simpa using (List.mem_filter.1 hy).2
  · have h1 : a < h := by simpa using (List.mem_filter.1 ha).2
    rcases List.mem_cons.1 hb with rfl | hb
    · exact h1
    · have h2 : h < b := by simpa using (List.mem_filter.1 hb).2
      omega
theorem insU_set {S : List Int} {h : Int} (hs : Ris S) : insU S h = setL (S ++ [h]) :=
  ris_uniq (ris_insU hs) (ris_setL _) (fun x => by rw [mem_insU, mem_setL])
theorem filt_all {l : List Int} {p : Int → Bool} (h : ∀ x ∈ l, p x = true) : l.filter p = l := List.filter_eq_self.2 h
theorem filt_none {l : List Int} {p : Int → Bool} (h : ∀ x ∈ l, p x = false) : l.filter p = [] := List.filter_eq_nil_iff.2 (fun x hx => by rw [h x hx]; decide)
theorem insU_len_ge {S : List Int} {h : Int} (hs : Ris S) : S.length ≤ (insU S h).length := by
  have h1 : ∀ l : List Int, l.Nodup → l.length ≤ (l.filter (fun x => decide (x < h))).length + 1 + (l.filter (fun x => decide (h < x))).length := by
    intro l hl
    induction l with
    | nil => simp
    | cons x r ih =>
      have hr := (List.nodup_cons.1 hl)
      by_cases e : x < h
      · have := ih hr.2
        rw [List.filter_cons_of_pos (by simpa using e), List.filter_cons_of_neg (by simp; omega)]
        simp only [List.length_cons]
        omega
      · by_cases e2 : h < x
        · have := ih hr.2
          rw [List.filter_cons_of_neg (by simpa using e), List.filter_cons_of_pos (by simpa using e2)]
          simp only [List.length_cons]
          omega
        · have e3 : x = h := by omega
          subst e3
          rw [List.filter_cons_of_neg (by simp), List.filter_cons_of_neg (by simp)]
          have h3 : ∀ l : List Int, x ∉ l → l.length = (l.filter (fun y => decide (y < x))).length + (l.filter (fun y => decide (x < y))).length := by
            intro l
            induction l with
            | nil => intro _; rfl
            | cons y r ih2 =>
              intro hn
              simp only [List.mem_cons, not_or] at hn
              have := ih2 hn.2
              by_cases e4 : y < x
              · rw [List.filter_cons_of_pos (by simpa using e4), List.filter_cons_of_neg (by simp; omega)]
                simp only [List.length_cons]; omega
              · rw [List.filter_cons_of_neg (by simpa using e4), List.filter_cons_of_pos (by simp; omega)]
                simp only [List.length_cons]; omega
          have := h3 r hr.1
          simp only [List.length_cons]
          omega
  have := h1 S (ris_nodup hs)
  unfold insU
  rw [List.length_append, List.length_cons]
  omega
/-- What is cut off does not come back. -/
theorem ins_take {S : List Int} {h : Int} {K : Nat} (hs : Ris S) : (insU (S.take K) h).take K = (insU S h).take K := by
  by_cases hK : S.length ≤ K
  · rw [List.take_of_length_le hK]
  obtain ⟨A, hA⟩ : ∃ A, S.take K = A := ⟨_, rfl⟩
  obtain ⟨B, hB⟩ : ∃ B, S.drop K = B := ⟨_, rfl⟩
  have hAB : A ++ B = S := by rw [← hA, ← hB, List.take_append_drop]
  have hAl : A.length = K := by rw [← hA, List.length_take]; omega
  rw [hA]
  rw [← hAB] at hs ⊢
  have ha := (List.pairwise_append.1 hs).1
  have hab := (List.pairwise_append.1 hs).2.2
  by_cases hall : ∀ a ∈ A, a < h
  · have e1 : insU A h = A ++ [h] := by
      unfold insU
      rw [filt_all (fun x hx => by simpa using hall x hx), filt_none (fun x hx => by have := hall x hx; simp; omega)]
    have e2 : insU (A ++ B) h = A ++ insU B h := by
      unfold insU
      rw [List.filter_append, List.filter_append, filt_all (fun x hx => by simpa using hall x hx), filt_none (l := A) (p := fun x => decide (h < x)) (fun x hx => by have := hall x hx; simp; omega)]
      simp
    rw [e1, e2, List.take_append_of_le_length (by omega), List.take_append_of_le_length (by omega)]
  · obtain ⟨a, haA, hah⟩ : ∃ a ∈ A, h ≤ a := Classical.byContradiction fun hc => hall (fun a ha2 => Classical.byContradiction fun h2 => hc ⟨a, ha2, by omega⟩)
    have hBh : ∀ b ∈ B, h < b := fun b hb => by have := hab a haA b hb; omega
    have e2 : insU (A ++ B) h = insU A h ++ B := by
      unfold insU
      rw [List.filter_append, List.filter_append, filt_none (l := B) (fun x hx => by have := hBh x hx; simp; omega), filt_all (l := B) (fun x hx => by simpa using hBh x hx)]
      simp
    rw [e2, List.take_append_of_le_length (by have := insU_len_ge (h := h) ha; omega)]
def svU (s : Ls) (h : Int) : Ls := ⟨s.k, (insU s.h h).take s.k.toNat⟩
theorem ris_take {l : List Int} (h : Ris l) (n : Nat) : Ris (l.take n) := List.Pairwise.sublist (List.take_sublist _ _) h
theorem sv_fold (K : Int) : ∀ (T S : List Int), Ris S → T.foldl svU ⟨K, S.take K.toNat⟩ = ⟨K, (setL (S ++ T)).take K.toNat⟩
  | [], S, hs => by
    have : setL (S ++ []) = S := ris_uniq (ris_setL _) hs (fun x => by rw [mem_setL, List.append_nil])
    rw [this]
    rfl
  | h :: T, S, hs => by
    rw [List.foldl_cons]
    have e : svU ⟨K, S.take K.toNat⟩ h = ⟨K, (insU S h).take K.toNat⟩ := by
      unfold svU
      rw [ins_take hs]
    rw [e, sv_fold K T (insU S h) (ris_insU hs)]
    have e2 : setL (insU S h ++ T) = setL (S ++ h :: T) := ris_uniq (ris_setL _) (ris_setL _) (fun x => by
      rw [mem_setL, mem_setL, List.mem_append, mem_insU]
      simp [or_assoc])
    rw [e2]
theorem svU_set {s : Ls} {h : Int} (hs : Ris s.h) : svU s h = ⟨s.k, (setL (s.h ++ [h])).take s.k.toNat⟩ := by
  unfold svU
  rw [insU_set hs]
end Go.Gh
/-
  How a sieve takes a number more, step by step: as plain lists.
-/
namespace Go.Gh
set_option linter.unusedVariables false
set_option linter.unusedSimpArgs false
/-- What is out behind k numbers; p: has the new one been put? -/
def Sv (l : List Int) (h : Int) (k : Nat) (p : Bool) (A : List Int) : Prop := A = (l.take k).filter (fun x => decide (x < h)) ++ ((if p = true then [h] else []) ++ (l.take k).filter (fun x => decide (h < x))) ∧
  (p = true → ∃ y ∈ l.take k, h ≤ y) ∧ (p = false → ∀ y ∈ l.take k, y < h)
theorem sv_start (l : List Int) (h : Int) : Sv l h 0 false [] := ⟨by simp, (fun e => by cases e), (fun _ y hy => by simp at hy)⟩
theorem take_snocI {l : List Int} {k : Nat} {x : Int} (hx : l[k]? = some x) : l.take (k + 1) = l.take k ++ [x] := by
  rw [List.take_add_one, hx]
  rfl
theorem sv_put {l : List Int} {h x : Int} {k : Nat} {A : List Int} (hs : Sv l h k false A) (hx : l[k]? = some x) (hle : h ≤ x) : Sv l h (k + 1) true (if x = h then A ++ [h] else A ++ [h] ++ [x]) := by
  obtain ⟨h1, -, h3⟩ := hs
  have h3 := h3 rfl
  unfold Sv
  rw [take_snocI hx]
  have e1 : (l.take k).filter (fun x => decide (h < x)) = [] := filt_none (fun y hy => by have := h3 y hy; simp; omega)
  rw [e1] at h1
  refine ⟨?_, fun _ => ⟨x, by simp, hle⟩, fun e => by cases e⟩
  rw [List.filter_append, List.filter_append, e1]
  by_cases e : x = h
  · subst e
    rw [if_pos rfl, h1]
    simp
  · rw [if_neg e, h1]
    have e2 : ¬ x < h := by omega
    have e3 : h < x := by omega
    simp [e2, e3]
theorem sv_less {l : List Int} {h x : Int} {k : Nat} {A : List Int} (hs : Sv l h k false A) (hx : l[k]? = some x) (hlt : x < h) : Sv l h (k + 1) false (A ++ [x]) := by
  obtain ⟨h1, -, h3⟩ := hs
  have h3 := h3 rfl
  unfold Sv
  rw [take_snocI hx]
  have e1 : (l.take k).filter (fun x => decide (h < x)) = [] := filt_none (fun y hy => by have := h3 y hy; simp; omega)
  rw [e1] at h1
  refine ⟨?_, (fun e => by cases e), fun _ y hy => ?_⟩
  · rw [List.filter_append, List.filter_append, e1, h1]
    have e3 : ¬ h < x := by omega
    simp [hlt, e3]
  · rcases List.mem_append.1 hy with hy | hy
    · exact h3 y hy
    · obtain rfl : y = x := by simpa using hy
      exact hlt
theorem sv_more {l : List Int} {h x : Int} {k : Nat} {A : List Int} (hr : Ris l) (hs : Sv l h k true A) (hx : l[k]? = some x) : h < x ∧ Sv l h (k + 1) true (A ++ [x]) := by
  obtain ⟨h1, h2, -⟩ := hs
  obtain ⟨y, hy, hyh⟩ := h2 rfl
  have hyx : y < x := by
    obtain ⟨i, hi, rfl⟩ := List.mem_iff_getElem.1 hy
    obtain ⟨hk, rfl⟩ := List.getElem?_eq_some_iff.1 hx
    rw [List.length_take] at hi
    rw [List.getElem_take]
    exact List.pairwise_iff_getElem.1 hr i k (by omega) hk (by omega)
  have hlt : h < x := by omega
  refine ⟨hlt, ?_, fun _ => ⟨y, by rw [take_snocI hx]; exact List.mem_append_left _ hy, hyh⟩, fun e => by cases e⟩
  rw [take_snocI hx, List.filter_append, List.filter_append, h1]
  have e3 : ¬ x < h := by omega
  simp [hlt, e3]
theorem sv_end {l : List Int} {h : Int} {p : Bool} {A : List Int} (hs : Sv l h l.length p A) : (if p = true then A else A ++ [h]) = insU l h := by
  obtain ⟨h1, h2, h3⟩ := hs
  rw [List.take_length] at h1 h2 h3
  unfold insU
  cases p with
  | true => rw [if_pos rfl, h1]; simp
  | false =>
    have h3 := h3 rfl
    have e1 : l.filter (fun x => decide (h < x)) = [] := filt_none (fun y hy => by have := h3 y hy; simp; omega)
    rw [if_neg (by decide), h1, e1]
    simp
theorem sv_len {l : List Int} {h : Int} {k : Nat} {p : Bool} {A : List Int} (hs : Sv l h k p A) : A.length ≤ 2 * l.length + 1 := by
  rw [hs.1]
  have h1 := List.length_filter_le (fun x => decide (x < h)) (l.take k)
  have h2 := List.length_filter_le (fun x => decide (h < x)) (l.take k)
  have h3 : (l.take k).length ≤ l.length := by rw [List.length_take]; omega
  have h4 : (if p = true then [h] else []).length ≤ 1 := by split <;> simp
  simp only [List.length_append]
  omega
theorem mem_sv {l : List Int} {h : Int} {P : Int → Prop} (hl : ∀ z ∈ l, P z) (hh : P h) : ∀ z ∈ insU l h, P z := by
  intro z hz
  rcases List.mem_append.1 (mem_insU.1 hz) with h1 | h1
  · exact hl z h1
  · obtain rfl : z = h := by simpa using h1
    exact hh
end Go.Gh
/-
  Sieves: long division, bit by bit.
-/
namespace Go.Gh
set_option linter.unusedVariables false
set_option linter.unusedSimpArgs false
/-- Behind k steps of the long division of a by y. -/
def Dv (a y k q r : Nat) : Prop := r < y ∧ a * 2 ^ k = q * y + r ∧ q < 2 ^ k
theorem dv_start {a y : Nat} (h : a < y) : Dv a y 0 0 a := ⟨h, by omega, by decide⟩
theorem dv_add {a y k q r : Nat} (h : Dv a y k q r) (h2 : y ≤ 2 * r) : Dv a y (k + 1) (2 * q + 1) (2 * r - y) := by
  obtain ⟨h1, h3, h4⟩ := h
  have e : a * 2 ^ (k + 1) = 2 * (a * 2 ^ k) := by rw [Nat.pow_succ, Nat.mul_comm (2 ^ k) 2, ← Nat.mul_assoc, Nat.mul_comm a 2, Nat.mul_assoc]
  have e2 : (2 * q + 1) * y = 2 * (q * y) + y := by rw [Nat.add_mul, Nat.one_mul, Nat.mul_assoc]
  refine ⟨by omega, by rw [e, h3, e2]; omega, by rw [Nat.pow_succ]; omega⟩
theorem dv_keep {a y k q r : Nat} (h : Dv a y k q r) (h2 : 2 * r < y) : Dv a y (k + 1) (2 * q) (2 * r) := by
  obtain ⟨h1, h3, h4⟩ := h
  have e : a * 2 ^ (k + 1) = 2 * (a * 2 ^ k) := by rw [Nat.pow_succ, Nat.mul_comm (2 ^ k) 2, ← Nat.mul_assoc, Nat.mul_comm a 2, Nat.mul_assoc]
  refine ⟨h2, by rw [e, h3, Nat.mul_assoc]; omega, by rw [Nat.pow_succ]; omega⟩
theorem dv_end {a y k q r : Nat} (h : Dv a y k q r) : q = a * 2 ^ k / y := by
  rw [h.2.1, Nat.mul_comm q y, Nat.mul_add_div (by have := h.1; omega), Nat.div_eq_of_lt h.1]
  omega
theorem dv_lt {a y k q r : Nat} (h : Dv a y k q r) (hk : k ≤ 63) : q < 9223372036854775808 := by
  have h1 : 2 ^ k ≤ 2 ^ 63 := Nat.pow_le_pow_right (by decide) hk
  have := h.2.2
  omega
/-- How many there may be. -/
def guessL (s : Ls) : Int :=
  if (s.h.length : Int) < s.k then s.h.length else
  let m := s.h.getD (s.k.toNat - 1) 0
  if m = 18446744073709551615 then s.k - 1 else
  if m + 1 ≤ s.k - 1 then 18446744073709551615 else
  (s.k - 1) * 18446744073709551616 / (m + 1)
end Go.Gh
/-
  Rows that turn by swaps alone: as plain lists.
-/
namespace Go.Gh
set_option linter.unusedVariables false
set_option linter.unusedSimpArgs false
/-- The element at an index. -/
def el (D : List Int) (i : Nat) : Int := D.getD i 0
def sw (D : List Int) (i j : Nat) : List Int := (D.set i (el D j)).set j (el D i)
theorem sw_len (D : List Int) (i j : Nat) : (sw D i j).length = D.length := by unfold sw; rw [List.length_set, List.length_set]
theorem el_get {D : List Int} {i : Nat} (h : i < D.length) : D[i]? = some (el D i) := by
  unfold el
  rw [List.getD_eq_getElem?_getD, List.getElem?_eq_getElem h]
  rfl
theorem el_set {D : List Int} {i k : Nat} {x : Int} (hi : i < D.length) : el (D.set i x) k = if k = i then x else el D k := by
  unfold el
  rw [List.getD_eq_getElem?_getD, List.getD_eq_getElem?_getD, List.getElem?_set]
  by_cases h : i = k
  · subst h
    rw [if_pos rfl, if_pos rfl, if_pos hi]
    rfl
  · rw [if_neg h, if_neg (fun e => h e.symm)]
theorem sw_el {D : List Int} {i j k : Nat} (hi : i < D.length) (hj : j < D.length) : el (sw D i j) k = if k = j then el D i else if k = i then el D j else el D k := by
  unfold sw
  rw [el_set (by rw [List.length_set]; exact hj), el_set hi]
theorem sw_perm {D : List Int} {i j : Nat} (hi : i < D.length) (hj : j < D.length) : (sw D i j).Perm D := by
  have h := List.set_set_perm (as := D) hi hj
  have e1 : el D j = D[j] := by unfold el; rw [List.getD_eq_getElem?_getD, List.getElem?_eq_getElem hj]; rfl
  have e2 : el D i = D[i] := by unfold el; rw [List.getD_eq_getElem?_getD, List.getElem?_eq_getElem hi]; rfl
  unfold sw
  rw [e1, e2]
  exact h
/-- What comes of a row by swaps from a on, below b. -/
inductive Pm (a b : Nat) (D : List Int) : List Int → Prop
  | refl : Pm a b D D
  | step {E : List Int} {i j : Nat} : Pm a b D E → a ≤ i → i < b → a ≤ j → j < b → Pm a b D (sw E i j)
theorem Pm.len {a b : Nat} {D E : List Int} (h : Pm a b D E) : E.length = D.length := by
  induction h with
  | refl => rfl
  | step _ _ _ _ _ ih => rw [sw_len, ih]
theorem Pm.trans {a b : Nat} {D E F : List Int} (h : Pm a b D E) (h2 : Pm a b E F) : Pm a b D F := by
  induction h2 with
  | refl => exact h
  | step _ h1 h2 h3 h4 ih => exact ih.step h1 h2 h3 h4
theorem Pm.mono {a b a' b' : Nat} {D E : List Int} (h : Pm a b D E) (ha : a' ≤ a) (hb : b ≤ b') : Pm a' b' D E := by
  induction h with
  | refl => exact .refl
  | step _ h1 h2 h3 h4 ih => exact ih.step (by omega) (by omega) (by omega) (by omega)
theorem Pm.one {a b i j : Nat} {D : List Int} (h1 : a ≤ i) (h2 : i < b) (h3 : a ≤ j) (h4 : j < b) : Pm a b D (sw D i j) := Pm.refl.step h1 h2 h3 h4
theorem Pm.out {a b : Nat} {D E : List Int} (h : Pm a b D E) (hb : b ≤ D.length) {k : Nat} (hk : k < a ∨ b ≤ k) : el E k = el D k := by
  induction h with
  | refl => rfl
  | step h h1 h2 h3 h4 ih =>
    rw [sw_el (by rw [h.len]; omega) (by rw [h.len]; omega), if_neg (by omega), if_neg (by omega), ih]
theorem Pm.all {a b : Nat} {D E : List Int} (h : Pm a b D E) (hb : b ≤ D.length) (P : Int → Prop) (hP : ∀ k, a ≤ k → k < b → P (el D k)) : ∀ k, a ≤ k → k < b → P (el E k) := by
  induction h with
  | refl => exact hP
  | step h h1 h2 h3 h4 ih =>
    intro k hk hk2
    rw [sw_el (by rw [h.len]; omega) (by rw [h.len]; omega)]
    split
    · exact ih _ h1 h2
    · split
      · exact ih _ h3 h4
      · exact ih _ hk hk2
theorem Pm.perm {a b : Nat} {D E : List Int} (h : Pm a b D E) (hb : b ≤ D.length) : E.Perm D := by
  induction h with
  | refl => exact List.Perm.refl _
  | step h h1 h2 h3 h4 ih => exact (sw_perm (by rw [h.len]; omega) (by rw [h.len]; omega)).trans ih
/-- Rising from a on, below b. -/
def Rs (a b : Nat) (D : List Int) : Prop := ∀ i j, a ≤ i → i < j → j < b → el D i ≤ el D j
theorem rs_step {a b : Nat} {D : List Int} (h : ∀ i, a ≤ i → i + 1 < b → el D i ≤ el D (i + 1)) : Rs a b D := by
  intro i j hi hij hj
  induction j with
  | zero => omega
  | succ j ih =>
    by_cases e : i = j
    · subst e; exact h i hi hj
    · exact Int.le_trans (ih (by omega) (by omega)) (h j (by omega) hj)
/-- What is left to turn: from a on, below b, within a0 and b0; all else is where it belongs. -/
def Fr (a0 b0 a b : Nat) (D : List Int) : Prop := (∀ i j, a0 ≤ i → i < a → i < j → j < b0 → el D i ≤ el D j) ∧ ∀ i j, b ≤ j → j < b0 → a0 ≤ i → i < j → el D i ≤ el D j
theorem fr_all (a0 b0 : Nat) (D : List Int) : Fr a0 b0 a0 b0 D := ⟨fun i j h1 h2 => by omega, fun i j h1 h2 => by omega⟩
theorem Fr.pm {a0 b0 a b : Nat} {D E : List Int} (h : Fr a0 b0 a b D) (hp : Pm a b D E) (hl : b0 ≤ D.length) (h1 : a0 ≤ a) (h2 : b ≤ b0) : Fr a0 b0 a b E := by
  have hb : b ≤ D.length := by omega
  constructor
  · intro i j hi hia hij hj
    rw [hp.out hb (k := i) (Or.inl hia)]
    by_cases hja : a ≤ j ∧ j < b
    · exact hp.all hb (fun x => el D i ≤ x) (fun k hk1 hk2 => h.1 i k hi hia (by omega) (by omega)) j hja.1 hja.2
    · rw [hp.out hb (k := j) (by omega)]
      exact h.1 i j hi hia hij hj
  · intro i j hj hj2 hi hij
    rw [hp.out hb (k := j) (Or.inr hj)]
    by_cases hia : a ≤ i ∧ i < b
    · exact hp.all hb (fun x => x ≤ el D j) (fun k hk1 hk2 => h.2 k j hj hj2 (by omega) (by omega)) i hia.1 hia.2
    · rw [hp.out hb (k := i) (by omega)]
      exact h.2 i j hj hj2 hi hij
theorem Fr.done {a0 b0 a b : Nat} {D : List Int} (h : Fr a0 b0 a b D) (hr : Rs a b D) : Rs a0 b0 D := by
  intro i j hi hij hj
  by_cases h1 : i < a
  · exact h.1 i j hi h1 hij hj
  · by_cases h2 : b ≤ j
    · exact h.2 i j h2 hj hi hij
    · exact hr i j (by omega) hij (by omega)
end Go.Gh
