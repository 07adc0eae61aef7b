/-
  Sets of numbers: strictly rising lists; what And, Or, Not answer, as plain functions.
-/
import Derived.Test.YtlfhcjhbnakamaaIz1
import Derived.Test.YtlfhcjhbnakamaaIz2
import Derived.Test.YtlfhcjhbnakamaaIz4
import Derived.Lib.SlicesCompact
import Derived.Test.YtlfhcjhbnakamaaProg
import Derived.Laws.Cover1
import Derived.Deep.QuietTactic
import Derived.BigQuiet
namespace Go.Gh
set_option linter.unusedVariables false
/-- Strictly rising. -/
def Ris (l : List Int) : Prop := l.Pairwise (· < ·)
theorem ris_uniq : ∀ {a b : List Int}, Ris a → Ris b → (∀ x, x ∈ a ↔ x ∈ b) → a = b
  | [], [], _, _, _ => rfl
  | [], y :: b, _, _, h => by have := (h y).2 (by simp); simp at this
  | x :: a, [], _, _, h => by have := (h x).1 (by simp); simp at this
  | x :: a, y :: b, ha, hb, h => by
    obtain ⟨a1, a2⟩ := List.pairwise_cons.1 ha
    obtain ⟨b1, b2⟩ := List.pairwise_cons.1 hb
    have hxy : x = y := by
      have e1 : x ≤ y := by
        rcases List.mem_cons.1 ((h y).2 (by simp)) with h1 | h1
        · omega
        · have := a1 y h1; omega
      have e2 : y ≤ x := by
        rcases List.mem_cons.1 ((h x).1 (by simp)) with h1 | h1
        · omega
        · have := b1 x h1; omega
      omega
    subst hxy
    rw [ris_uniq a2 b2 (fun z => ?_)]
    have hz := h z
    simp only [List.mem_cons] at hz
    constructor
    · intro h1
      rcases hz.1 (Or.inr h1) with h2 | h2
      · have := a1 z h1; omega
      · exact h2
    · intro h1
      rcases hz.2 (Or.inr h1) with h2 | h2
      · have := b1 z h1; omega
      · exact h2
theorem ris_nodup {l : List Int} (h : Ris l) : l.Nodup := List.Pairwise.imp (fun {a b} h => by omega) h
theorem mem_upto (d : Array Int) : ∀ (m : Nat) (x : Int), x ∈ Lib.compactUpTo d m ↔ ∃ j, j < m ∧ d[j]! = x := by
  intro m x
  unfold Lib.compactUpTo
  simp only [List.mem_map, List.mem_filter, List.mem_range]
  constructor
  · rintro ⟨j, ⟨h1, -⟩, h2⟩
    exact ⟨j, h1, h2⟩
  · rintro ⟨j, h1, h2⟩
    have key : ∀ j, j < m → d[j]! = x → ∃ i, (i < m ∧ Lib.keeps d i = true) ∧ d[i]! = x := by
      intro j
      induction j with
      | zero => exact fun h1 h2 => ⟨0, ⟨h1, by simp [Lib.keeps]⟩, h2⟩
      | succ j ih =>
        intro h1 h2
        by_cases hk : Lib.keeps d (j + 1) = true
        · exact ⟨j + 1, ⟨h1, hk⟩, h2⟩
        · refine ih (by omega) ?_
          have : d[j + 1]! = d[j + 1 - 1]! := by
            by_cases he : d[j + 1]! = d[j + 1 - 1]!
            · exact he
            · exact absurd (Lib.keeps_pos he) hk
          rw [Nat.add_sub_cancel] at this
          rw [← this, h2]
    exact key j h1 h2
theorem ris_upto (d : Array Int) (hs : ∀ i j, i ≤ j → j < d.size → d[i]! ≤ d[j]!) : ∀ m, m ≤ d.size → Ris (Lib.compactUpTo d m)
  | 0, _ => List.Pairwise.nil
  | m + 1, hm => by
    have ih := ris_upto d hs m (by omega)
    rw [Lib.compactUpTo_succ]
    split
    · rename_i hk
      refine List.pairwise_append.2 ⟨ih, List.pairwise_singleton _ _, fun a ha b hb => ?_⟩
      obtain rfl : b = d[m]! := by simpa using hb
      obtain ⟨j, hj, rfl⟩ := (mem_upto d m a).1 ha
      have hm0 : 0 < m := by omega
      have h1 : d[m]! ≠ d[m - 1]! := by
        intro he
        rw [Lib.keeps_neg hm0 he] at hk
        simp at hk
      have h2 := hs j (m - 1) (by omega) (by omega)
      have h3 := hs (m - 1) m (by omega) (by omega)
      omega
    · rw [List.append_nil]
      exact ih
/-- The set of a list's numbers. -/
def setL (l : List Int) : List Int := Lib.compact (l.mergeSort fun x y => decide (x ≤ y))
theorem getb (l : List Int) (j : Nat) (h : j < l.length) : l.toArray[j]! = l[j] := by simp [getElem!_pos, h]
theorem mem_compact (l : List Int) (x : Int) : x ∈ Lib.compact l ↔ x ∈ l := by
  unfold Lib.compact
  rw [mem_upto]
  constructor
  · rintro ⟨j, h1, h2⟩
    rw [getb l j h1] at h2
    rw [← h2]
    exact List.getElem_mem h1
  · intro h
    obtain ⟨j, h1, h2⟩ := List.mem_iff_getElem.1 h
    exact ⟨j, h1, by rw [getb l j h1, h2]⟩
theorem mem_setL {l : List Int} {x : Int} : x ∈ setL l ↔ x ∈ l := by
  unfold setL
  rw [mem_compact, List.mem_mergeSort]
theorem srt_le2 (l : List Int) : (l.mergeSort fun x y => decide (x ≤ y)).Pairwise (· ≤ ·) := by
  have h := List.pairwise_mergeSort (le := fun x y : Int => decide (x ≤ y)) (fun a b c h1 h2 => by simp at h1 h2 ⊢; omega) (fun a b => by simp; omega) l
  exact h.imp (fun h => by simpa using h)
theorem ris_compact {l : List Int} (h : l.Pairwise (· ≤ ·)) : Ris (Lib.compact l) := by
  unfold Lib.compact
  refine ris_upto _ (fun i j hij hj => ?_) _ (by simp)
  have hj' : j < l.length := by simpa using hj
  rw [getb l i (by omega), getb l j hj']
  rcases Nat.lt_or_ge i j with h1 | h1
  · exact List.pairwise_iff_getElem.1 h i j (by omega) hj' h1
  · obtain rfl : i = j := by omega
    exact Int.le_refl _
theorem ris_setL (l : List Int) : Ris (setL l) := ris_compact (srt_le2 l)
theorem setL_len (l : List Int) : (setL l).length ≤ l.length := by
  have h : ∀ (d : Array Int) (m : Nat), (Lib.compactUpTo d m).length ≤ m := fun d m => by
    unfold Lib.compactUpTo
    rw [List.length_map]
    exact Nat.le_trans (List.length_filter_le _ _) (by simp)
  have := h (l.mergeSort fun x y => decide (x ≤ y)).toArray (l.mergeSort fun x y => decide (x ≤ y)).length
  rw [List.length_mergeSort] at this
  unfold setL Lib.compact
  rw [List.length_mergeSort]
  exact this
theorem compact_len (l : List Int) : (Lib.compact l).length ≤ l.length := by
  unfold Lib.compact Lib.compactUpTo
  rw [List.length_map]
  exact Nat.le_trans (List.length_filter_le _ _) (by simp)
/-- In both, out of two sets. -/
def andL : List Int → List Int → List Int
  | [], _ => []
  | _ :: _, [] => []
  | x :: a, y :: b => if x < y then andL a (y :: b) else if y < x then andL (x :: a) b else x :: andL a b
termination_by a b => a.length + b.length
theorem andL_nil {a : List Int} : andL a [] = [] := by cases a <;> rw [andL]
theorem mem_andL : ∀ (a b : List Int), Ris a → Ris b → ∀ z, z ∈ andL a b ↔ (z ∈ a ∧ z ∈ b)
  | [], b, _, _, z => by rw [andL]; simp
  | x :: a, [], _, _, z => by rw [andL]; simp
  | x :: a, y :: b, ha, hb, z => by
    obtain ⟨a1, a2⟩ := List.pairwise_cons.1 ha
    obtain ⟨b1, b2⟩ := List.pairwise_cons.1 hb
    rw [andL]
    split
    · rename_i h
      rw [mem_andL a (y :: b) a2 hb z]
      simp only [List.mem_cons]
      constructor
      · rintro ⟨h1, h2⟩; exact ⟨Or.inr h1, h2⟩
      · rintro ⟨h1 | h1, h2⟩
        · subst h1
          rcases h2 with h2 | h2
          · omega
          · have := b1 _ h2; omega
        · exact ⟨h1, h2⟩
    · split
      · rename_i hq h
        rw [mem_andL (x :: a) b ha b2 z]
        simp only [List.mem_cons]
        constructor
        · rintro ⟨h1, h2⟩; exact ⟨h1, Or.inr h2⟩
        · rintro ⟨h1, h2 | h2⟩
          · subst h2
            rcases h1 with h3 | h3
            · omega
            · have := a1 _ h3; omega
          · exact ⟨h1, h2⟩
      · rename_i h1 h2
        obtain rfl : x = y := by omega
        simp only [List.mem_cons, mem_andL a b a2 b2 z]
        constructor
        · rintro (h | ⟨h, h'⟩)
          · exact ⟨Or.inl h, Or.inl h⟩
          · exact ⟨Or.inr h, Or.inr h'⟩
        · rintro ⟨h | h, h' | h'⟩
          · exact Or.inl h
          · exact Or.inl h
          · exact Or.inl h'
          · exact Or.inr ⟨h, h'⟩
termination_by a b => a.length + b.length
theorem ris_andL : ∀ (a b : List Int), Ris a → Ris b → Ris (andL a b)
  | [], b, _, _ => by rw [andL]; exact List.Pairwise.nil
  | x :: a, [], _, _ => by rw [andL]; exact List.Pairwise.nil
  | x :: a, y :: b, ha, hb => by
    obtain ⟨a1, a2⟩ := List.pairwise_cons.1 ha
    obtain ⟨b1, b2⟩ := List.pairwise_cons.1 hb
    rw [andL]
    split
    · exact ris_andL a (y :: b) a2 hb
    · split
      · exact ris_andL (x :: a) b ha b2
      · exact List.pairwise_cons.2 ⟨fun z hz => a1 z ((mem_andL a b a2 b2 z).1 hz).1, ris_andL a b a2 b2⟩
termination_by a b => a.length + b.length
theorem andL_len : ∀ (a b : List Int), (andL a b).length ≤ a.length
  | [], b => by rw [andL]; exact Nat.le_refl _
  | x :: a, [] => by rw [andL]; exact Nat.zero_le _
  | x :: a, y :: b => by
    rw [andL]
    split
    · have := andL_len a (y :: b); rw [List.length_cons]; omega
    · split
      · exact andL_len (x :: a) b
      · have := andL_len a b; rw [List.length_cons, List.length_cons]; omega
termination_by a b => a.length + b.length
/-- The numbers below n that are not in a list. -/
def notTo (a : List Int) : Nat → List Int
  | 0 => []
  | j + 1 => if (j : Int) ∈ a then notTo a j else notTo a j ++ [(j : Int)]
theorem notTo_len (a : List Int) : ∀ j, (notTo a j).length ≤ j
  | 0 => Nat.le_refl _
  | j + 1 => by
    have := notTo_len a j
    rw [notTo]
    split
    · omega
    · rw [List.length_append, List.length_singleton]; omega
theorem notTo_eq {a b : List Int} (h : ∀ x, x ∈ a ↔ x ∈ b) : ∀ j, notTo a j = notTo b j
  | 0 => rfl
  | j + 1 => by
    rw [notTo, notTo, notTo_eq h j]
    by_cases h1 : (j : Int) ∈ a
    · rw [if_pos h1, if_pos ((h _).1 h1)]
    · rw [if_neg h1, if_neg (fun h2 => h1 ((h _).2 h2))]
/-- The reference's two lists, each number once. -/
def orS (o : List Int) (x : Int) : List Int := if x ∈ o then o else o ++ [x]
def orTo (l : List Int) (j : Nat) : List Int := (l.take j).foldl orS []
def anS (a b : List Int) (p : List Int × List Int) (x : Int) : List Int × List Int := if x ∈ p.1 then p else (p.1 ++ [x], if x ∈ a ∧ x ∈ b then p.2 ++ [x] else p.2)
def anTo (a b l : List Int) (j : Nat) : List Int × List Int := (l.take j).foldl (anS a b) ([], [])
theorem anTo_step {a b l : List Int} {j : Nat} {x : Int} (h : l[j]? = some x) : anTo a b l (j + 1) = anS a b (anTo a b l j) x := by
  obtain ⟨h1, h2⟩ := List.getElem?_eq_some_iff.1 h
  unfold anTo
  rw [List.take_succ_eq_append_getElem h1, h2, List.foldl_append]
  rfl
theorem anTo_spec (a b l : List Int) : ∀ j, j ≤ l.length → (∀ z, z ∈ (anTo a b l j).1 ↔ z ∈ l.take j) ∧ (∀ z, z ∈ (anTo a b l j).2 ↔ (z ∈ l.take j ∧ z ∈ a ∧ z ∈ b)) ∧ (anTo a b l j).1.Nodup ∧ (anTo a b l j).2.Nodup ∧ (anTo a b l j).1.length ≤ j ∧ (anTo a b l j).2.length ≤ j
  | 0, _ => ⟨fun z => by simp [anTo], fun z => by simp [anTo], List.nodup_nil, List.nodup_nil, Nat.le_refl _, Nat.le_refl _⟩
  | j + 1, hj => by
    obtain ⟨i1, i2, i3, i4, i5, i6⟩ := anTo_spec a b l j (by omega)
    obtain ⟨x, hx⟩ : ∃ x, l[j]? = some x := ⟨_, List.getElem?_eq_getElem (by omega)⟩
    obtain ⟨h1, h2⟩ := List.getElem?_eq_some_iff.1 hx
    rw [anTo_step hx, List.take_succ_eq_append_getElem h1, h2]
    generalize anTo a b l j = p at *
    unfold anS
    by_cases hm : x ∈ p.1
    · rw [if_pos hm]
      have hx2 := (i1 x).1 hm
      refine ⟨fun z => ?_, fun z => ?_, i3, i4, by omega, by omega⟩
      · rw [i1 z, List.mem_append]
        exact ⟨Or.inl, fun h => h.elim id (fun h => by rw [List.mem_singleton.1 h]; exact hx2)⟩
      · rw [i2 z, List.mem_append]
        exact ⟨fun h => ⟨Or.inl h.1, h.2⟩, fun h => ⟨h.1.elim id (fun h => by rw [List.mem_singleton.1 h]; exact hx2), h.2⟩⟩
    · rw [if_neg hm]
      have hn : x ∉ l.take j := fun h => hm ((i1 x).2 h)
      have hn2 : x ∉ p.2 := fun h => hn ((i2 x).1 h).1
      refine ⟨fun z => ?_, fun z => ?_, ?_, ?_, ?_, ?_⟩
      · rw [List.mem_append, List.mem_append, i1 z]
      · dsimp only
        split
        · rename_i hab
          rw [List.mem_append, List.mem_append, i2 z]
          constructor
          · rintro (h | h)
            · exact ⟨Or.inl h.1, h.2⟩
            · obtain rfl : z = x := by simpa using h
              exact ⟨Or.inr h, hab⟩
          · rintro ⟨h | h, h'⟩
            · exact Or.inl ⟨h, h'⟩
            · exact Or.inr h
        · rename_i hab
          rw [List.mem_append, i2 z]
          constructor
          · intro h; exact ⟨Or.inl h.1, h.2⟩
          · rintro ⟨h | h, h'⟩
            · exact ⟨h, h'⟩
            · obtain rfl : z = x := by simpa using h
              exact absurd h' hab
      · exact List.nodup_append.2 ⟨i3, (List.pairwise_singleton _ _), fun u hu v hv e => by
          obtain rfl : v = x := by simpa using hv
          exact hm (e ▸ hu)⟩
      · dsimp only
        split
        · exact List.nodup_append.2 ⟨i4, (List.pairwise_singleton _ _), fun u hu v hv e => by
            obtain rfl : v = x := by simpa using hv
            exact hn2 (e ▸ hu)⟩
        · exact i4
      · rw [List.length_append, List.length_singleton]; omega
      · dsimp only
        split
        · rw [List.length_append, List.length_singleton]; omega
        · omega
/-- A list without doubles, sorted, rises strictly. -/
theorem ris_sort {l : List Int} (h : l.Nodup) : Ris (l.mergeSort fun x y => decide (x ≤ y)) := by
  have h1 := srt_le2 l
  have h2 : (l.mergeSort fun x y => decide (x ≤ y)).Nodup := ((List.mergeSort_perm l _).nodup_iff).2 h
  exact (h1.and h2).imp (fun {a b} h => by omega)
theorem and_same (a b : List Int) : andL (setL a) (setL b) = ((anTo a b (a ++ b) (a ++ b).length).2).mergeSort fun x y => decide (x ≤ y) := by
  obtain ⟨i1, i2, i3, i4, -, -⟩ := anTo_spec a b (a ++ b) _ (Nat.le_refl _)
  refine ris_uniq (ris_andL _ _ (ris_setL a) (ris_setL b)) (ris_sort i4) (fun z => ?_)
  rw [mem_andL _ _ (ris_setL a) (ris_setL b), mem_setL, mem_setL, List.mem_mergeSort, i2, List.take_length, List.mem_append]
  exact ⟨fun h => ⟨Or.inl h.1, h⟩, fun h => h.2⟩
theorem or_same (a b : List Int) : setL (a ++ b) = ((anTo a b (a ++ b) (a ++ b).length).1).mergeSort fun x y => decide (x ≤ y) := by
  obtain ⟨i1, i2, i3, i4, -, -⟩ := anTo_spec a b (a ++ b) _ (Nat.le_refl _)
  refine ris_uniq (ris_setL _) (ris_sort i3) (fun z => ?_)
  rw [mem_setL, List.mem_mergeSort, i1, List.take_length]
end Go.Gh
/-
  Labels: the walks of name and GoodName.
-/
namespace Go.Proofs.Ytlfhcjhbnakamaa.Lab
open Go.RowKit Go.Gh
set_option linter.unusedVariables false
set_option linter.unusedSimpArgs false
theorem tl_ne {l : By} (h : l ≠ []) : (mkS l).toList.isEmpty = false ∧ ¬ (mkS l).toList = [] := by
  rw [mkS_list]
  exact ⟨by rw [List.isEmpty_eq_false_iff]; exact h, h⟩
theorem nameOk_cons (c : UInt8) (r : By) : nameOk (c :: r) = (decide (r.length + 1 ≤ 20) && !digB c && nmB c && r.all nmB) := rfl
/-- A name's byte, as a number. -/
theorem nmB_nat (d : UInt8) : nmB d = decide ((97 ≤ d.toNat ∧ d.toNat ≤ 122) ∨ (48 ≤ d.toNat ∧ d.toNat ≤ 57) ∨ d.toNat = 95) := by
  rw [Bool.eq_iff_iff]
  unfold nmB
  simp only [Bool.or_eq_true, Bool.and_eq_true, decide_eq_true_eq, UInt8.le_iff_toNat_le, ← UInt8.toNat_inj]
  have e1 : (97 : UInt8).toNat = 97 := rfl
  have e2 : (122 : UInt8).toNat = 122 := rfl
  have e3 : (48 : UInt8).toNat = 48 := rfl
  have e4 : (57 : UInt8).toNat = 57 := rfl
  have e5 : (95 : UInt8).toNat = 95 := rfl
  rw [e1, e2, e3, e4, e5]
  omega
theorem nmB_parts (c : UInt8) : nmB c = ((decide (97 ≤ c) && decide (c ≤ 122)) || (decide (48 ≤ c) && decide (c ≤ 57)) || decide (c = 95)) := rfl
set_option maxHeartbeats 4000000 in
set_option maxRecDepth 100000 in
theorem name_any (l : By) (w : World) (hsz : l.length ≤ 140737488355328) : Calls Try.prog 90 #[.string (mkS l)] w fun e w' => e = .returned (.bool (nameOk l)) ∧ Below w.heap.size w w' := by
  have hconv : ∀ W', (convert 9 23 (.string (mkS l))).run Try.prog W' = .ok (.slice (some ⟨W'.heap.size, 0, none⟩) (mkS l).size (grownCap W' (mkS l).size 0 5)) (Lib.bytesWorld W' 5 (mkS l)) := fun W' => Lib.run_convert_string_bytes W' 9 23 5 (mkS l) Try.underlying9 Try.underlying23 Try.underlying5
  have hml := mkS_size l
  obtain ⟨F, hF⟩ : ∃ F, nameOk l = F := ⟨_, rfl⟩
  rw [hF]
  have HF := Lib.hid hF
  clear hF
  cases l with
  | nil =>
    have e1 := mkS_list []
    obtain rfl : F = false := HF.out.symm
    go_enter Try.func90, Try.ntmps90
    go_wp2_with fail
    go_ret
    exact ⟨rfl, Below.refl _ _⟩
  | cons c r =>
    obtain ⟨e1, e2⟩ := tl_ne (l := c :: r) (by simp)
    have HG := Lib.hid (mkS_get (c :: r))
    have hbv := Lib.hid (fun W' => convS_below W' 5 (mkS (c :: r)))
    have hsl := Lib.hid (fun W' => convS_sl W' 5 (mkS (c :: r)) (by rw [mkS_size]; exact hsz))
    rw [kbS_mk] at hsl
    generalize mkS (c :: r) = S at e1 e2 hml hconv HG hbv hsl ⊢
    have hl1 : S.size = r.length + 1 := by rw [hml]; rfl
    obtain ⟨n, hn⟩ : ∃ n, S.size = n := ⟨_, rfl⟩
    rw [hn] at hl1
    simp only [hn] at hconv hsl
    have HL1 := Lib.hid hl1
    have hn0 : 0 < n := by omega
    clear hml
    by_cases h20 : 20 < n
    · have HN : Hid (F = false) := Lib.hid (by rw [← HF.out, nameOk_cons, decide_eq_false (by omega)]; rfl)
      clear hl1
      go_enter Try.func90, Try.ntmps90
      go_wp2_with fail
      go_ret
      exact ⟨by rw [HN.out]; rfl, Below.refl _ _⟩
    have hn20 : n ≤ 20 := by omega
    clear hl1
    have h0 : 0 < S.size := by omega
    have hg : (S[0]'h0) = c := HG.out 0 h0 (by simp)
    obtain ⟨D, hD⟩ : ∃ D, digB c = D := ⟨_, rfl⟩
    have HD := Lib.hid hD
    have hdd : D = (decide (48 ≤ c) && decide (c ≤ 57)) := by rw [← hD]; rfl
    clear hD
    go_enter Try.func90, Try.ntmps90
    go_upto_region 1 with (fail)
    go_cut [21] (fun t wx => t = .bool D ∧ wx = w)
    case first =>
      by_cases g1 : 48 ≤ c
      · by_cases g2 : c ≤ 57
        · obtain rfl : D = true := by rw [hdd, decide_eq_true g1, decide_eq_true g2]; rfl
          have q1 : decide ((c.toNat : Int) ≥ 48) = true := (u8_le 48 c).trans (decide_eq_true g1)
          have q2 : decide ((c.toNat : Int) ≤ 57) = true := (u8_le c 57).trans (decide_eq_true g2)
          clear g1 g2 hdd
          go_wp2_with fail
          go_meet
          exact ⟨by first | rfl | rw [decide_eq_false (by omega : ¬ (20 : Int) < (n : Int))], rfl⟩
        · obtain rfl : D = false := by rw [hdd, decide_eq_true g1, decide_eq_false g2]; rfl
          have q1 : decide ((c.toNat : Int) ≥ 48) = true := (u8_le 48 c).trans (decide_eq_true g1)
          have q2 : decide ((c.toNat : Int) ≤ 57) = false := (u8_le c 57).trans (decide_eq_false g2)
          clear g1 g2 hdd
          go_wp2_with fail
          go_meet
          exact ⟨by first | rfl | rw [decide_eq_false (by omega : ¬ (20 : Int) < (n : Int))], rfl⟩
      · obtain rfl : D = false := by rw [hdd, decide_eq_false g1]; rfl
        have q1 : decide ((c.toNat : Int) ≥ 48) = false := (u8_le 48 c).trans (decide_eq_false g1)
        clear g1 hdd
        go_wp2_with fail
        go_meet
        exact ⟨by first | rfl | rw [decide_eq_false (by omega : ¬ (20 : Int) < (n : Int))], rfl⟩
    obtain ⟨rfl, hwc⟩ := hcut
    have hwc := hwc.symm
    subst hwc
    clear hdd
    cases D with
    | true =>
      have HN : Hid (F = false) := Lib.hid (by rw [← HF.out, nameOk_cons, HD.out]; simp)
      go_wp2_with fail
      go_ret
      exact ⟨by rw [HN.out]; rfl, Below.refl _ _⟩
    | false =>
      have HN : Hid (F = (c :: r).all nmB) := Lib.hid (by rw [← HF.out, nameOk_cons, HD.out, decide_eq_true (by have := HL1.out; omega)]; rfl)
      go_wp2_with fail
      obtain ⟨W1, hW1⟩ : ∃ W1, W1 = Lib.bytesWorld w 5 S := ⟨_, rfl⟩
      rw [← hW1]
      have HSL : Hid (Sl W1 1 (.slice (some ⟨w.heap.size, 0, none⟩) n (grownCap w n 0 5)) n (((c :: r).map fun b => (b.toNat : Int)).map (Value.int .u8))) := Lib.hid (by rw [hW1]; exact hsl.out w)
      have HB1 : Hid (Below w.heap.size w W1) := Lib.hid (by rw [hW1]; exact hbv.out w)
      have HLL : Hid ((c :: r).length = n) := Lib.hid (by rw [HL1.out]; rfl)
      clear hW1 hg h0 e1 e2 hconv
      generalize c :: r = l at *
      go_loopw [25] (fun i wr => ∃ k : Nat, k ≤ n ∧ i = .int .i64 k ∧ Hid ((l.take k).all nmB = true) ∧ wr = W1) (fun i _ => n - (intOf i).toNat)
      case atStart => exact ⟨0, Nat.zero_le _, rfl, Lib.hid rfl, rfl⟩
      case round =>
        obtain ⟨k, hk, rfl, HT, hwe⟩ := hrel
        have hwe := hwe.symm
        subst hwe
        by_cases hlt : k < n
        case neg =>
          obtain rfl : k = n := by omega
          have HR : Hid (F = true) := Lib.hid (by
            rw [HN.out]
            have := HT.out
            rwa [List.take_of_length_le (Nat.le_of_eq HLL.out)] at this)
          go_wp2_with fail
          go_ret
          exact ⟨by rw [HR.out]; rfl, HB1.out⟩
        obtain ⟨d, hd⟩ : ∃ d, l[k]? = some d := ⟨_, List.getElem?_eq_getElem (by rw [HLL.out]; exact hlt)⟩
        obtain ⟨b, off, e0, hcell⟩ := Sl.int HSL.out hlt
        injection e0 with e0
        injection e0 with e1 e2
        subst e1
        subst e2
        rw [Nat.zero_add] at hcell
        have hdm : ((l.map fun b => (b.toNat : Int)).getD k 0) = (d.toNat : Int) := by
          rw [List.getD_eq_getElem?_getD, List.getElem?_map, hd]
          rfl
        rw [hdm] at hcell
        have HNB := Lib.hid (nmB_nat d)
        have HTK : Hid ((l.take (k + 1)).all nmB = nmB d) := Lib.hid (by
          obtain ⟨h1, h2⟩ := List.getElem?_eq_some_iff.1 hd
          rw [List.take_succ_eq_append_getElem h1, h2, List.all_append, HT.out]
          simp)
        have HMEM := Lib.hid (List.mem_of_getElem? hd)
        obtain ⟨m, hm⟩ : ∃ m, d.toNat = m := ⟨_, rfl⟩
        rw [hm] at hcell HNB
        obtain ⟨C, hC⟩ : ∃ C, nmB d = C := ⟨_, rfl⟩
        have HCD := Lib.hid hC
        rw [hC] at HNB HTK
        have hc2 := HNB.out
        clear hdm hm hd hC
        go_upto_region 6 with (fail)
        go_cut [46] (fun t wx => t = .bool (!C) ∧ wx = W1)
        case first =>
          by_cases g1 : m < 97
          · by_cases g2 : m < 48
            · obtain rfl : C = false := by rw [hc2]; exact decide_eq_false (by omega)
              have g3 : ¬ m = 95 := by omega
              clear hc2
              go_wp2_with fail
              go_meet
              exact ⟨by simp; omega, rfl⟩
            · by_cases g3 : 57 < m
              · by_cases g4 : m = 95
                · obtain rfl : C = true := by rw [hc2]; exact decide_eq_true (by omega)
                  have q4 : ((m : Int) != 95) = false := by rw [g4]; rfl
                  clear hc2 g4
                  go_wp2_with fail
                  go_meet
                  exact ⟨rfl, rfl⟩
                · obtain rfl : C = false := by rw [hc2]; exact decide_eq_false (by omega)
                  clear hc2
                  go_wp2_with fail
                  go_meet
                  exact ⟨by simp; omega, rfl⟩
              · obtain rfl : C = true := by rw [hc2]; exact decide_eq_true (by omega)
                clear hc2
                go_wp2_with fail
                go_meet
                exact ⟨by simp, rfl⟩
          · by_cases g2 : 122 < m
            · obtain rfl : C = false := by rw [hc2]; exact decide_eq_false (by omega)
              have g3 : ¬ m = 95 := by omega
              have g4 : ¬ m < 48 := by omega
              have g5 : 57 < m := by omega
              clear hc2
              go_wp2_with fail
              go_meet
              exact ⟨by simp; omega, rfl⟩
            · obtain rfl : C = true := by rw [hc2]; exact decide_eq_true (by omega)
              clear hc2
              go_wp2_with fail
              go_meet
              exact ⟨by simp, rfl⟩
        obtain ⟨rfl, hwc⟩ := hcut
        have hwc := hwc.symm
        subst hwc
        clear hc2
        cases C with
        | true =>
          go_wp2_with fail
          go_roundw
          case rel => exact ⟨k + 1, by omega, by go_num, HTK, by trivial⟩
          case measure => simp [intOf]; omega
        | false =>
          have HR : Hid (F = false) := Lib.hid (by
            rw [HN.out, List.all_eq_false]
            exact ⟨d, HMEM.out, by rw [HCD.out]; simp⟩)
          go_wp2_with fail
          go_ret
          exact ⟨by rw [HR.out]; rfl, HB1.out⟩
end Go.Proofs.Ytlfhcjhbnakamaa.Lab
/-
  Labels: the walk of GoodName.
-/
namespace Go.Proofs.Ytlfhcjhbnakamaa.Lab
open Go.RowKit Go.Gh
set_option linter.unusedVariables false
set_option linter.unusedSimpArgs false
/-- May this byte stand there? -/
def gdB (i : Nat) (c : UInt8) : Prop := (97 ≤ c.toNat ∧ c.toNat ≤ 122) ∨ c.toNat = 95 ∨ (48 ≤ c.toNat ∧ c.toNat ≤ 57 ∧ i ≠ 0)
def gdAt (l : By) (k : Nat) : Prop := ∀ (i : Nat) (c : UInt8), i < k → l[i]? = some c → gdB i c
theorem gd_nat_yes {k : Nat} {c : UInt8} (h : (97 ≤ c.toNat ∧ c.toNat ≤ 122) ∨ c.toNat = 95 ∨ (48 ≤ c.toNat ∧ c.toNat ≤ 57 ∧ k ≠ 0)) : gdB k c := h
theorem gd_nat_no {k : Nat} {c : UInt8} (h : ¬ ((97 ≤ c.toNat ∧ c.toNat ≤ 122) ∨ c.toNat = 95 ∨ (48 ≤ c.toNat ∧ c.toNat ≤ 57 ∧ k ≠ 0))) : ¬ gdB k c := h
theorem gdAt_succ {l : By} {k : Nat} {c : UInt8} (h : gdAt l k) (hc : l[k]? = some c) (h2 : gdB k c) : gdAt l (k + 1) := fun i d hi hd => by
  rcases Nat.lt_or_ge i k with h' | h'
  · exact h i d h' hd
  · obtain rfl : i = k := by omega
    rw [hc] at hd
    injection hd with hd
    rw [← hd]; exact h2
theorem digB_nat (d : UInt8) : digB d = decide (48 ≤ d.toNat ∧ d.toNat ≤ 57) := by
  rw [Bool.eq_iff_iff]
  unfold digB
  simp only [Bool.and_eq_true, decide_eq_true_eq, UInt8.le_iff_toNat_le]
  have e3 : (48 : UInt8).toNat = 48 := rfl
  have e4 : (57 : UInt8).toNat = 57 := rfl
  rw [e3, e4]
theorem gd_yes {l : By} (h : gdAt l l.length) (h1 : 0 < l.length) (h2 : l.length ≤ 20) : nameOk l = true := by
  match l, h1 with
  | c :: r, _ =>
    have hc := h 0 c (by simp) rfl
    rw [nameOk_cons]
    simp only [Bool.and_eq_true, decide_eq_true_eq, Bool.not_eq_true', List.all_eq_true]
    refine ⟨⟨⟨by simpa using h2, ?_⟩, ?_⟩, fun d hd => ?_⟩
    · rw [digB_nat, decide_eq_false_iff_not]
      unfold gdB at hc
      omega
    · rw [nmB_nat, decide_eq_true_eq]
      unfold gdB at hc
      omega
    · obtain ⟨i, hi⟩ := List.getElem?_of_mem hd
      have hg := h (i + 1) d (by have := (List.getElem?_eq_some_iff.1 hi).1; simp; omega) (by simpa using hi)
      rw [nmB_nat, decide_eq_true_eq]
      unfold gdB at hg
      omega
theorem gd_no {l : By} {k : Nat} {c : UInt8} (hc : l[k]? = some c) (h : ¬ gdB k c) : nameOk l = false := by
  match l with
  | [] => simp at hc
  | d :: r =>
    rw [nameOk_cons]
    rw [Bool.and_eq_false_iff]
    cases k with
    | zero =>
      have : d = c := by simpa using hc
      subst this
      refine Or.inl ?_
      rw [Bool.and_eq_false_iff]
      by_cases hn : nmB d = true
      · refine Or.inl ?_
        rw [Bool.and_eq_false_iff]
        refine Or.inr ?_
        rw [Bool.not_eq_false', digB_nat, decide_eq_true_eq]
        rw [nmB_nat, decide_eq_true_eq] at hn
        unfold gdB at h
        omega
      · exact Or.inr (by simpa using hn)
    | succ k =>
      refine Or.inr ?_
      rw [List.all_eq_false]
      refine ⟨c, List.mem_of_getElem? (by simpa using hc), ?_⟩
      rw [nmB_nat, decide_eq_true_eq]
      unfold gdB at h
      omega
theorem long_no {l : By} (h : 20 < l.length ∨ l.length = 0) : nameOk l = false := by
  match l with
  | [] => rfl
  | c :: r =>
    rw [nameOk_cons, decide_eq_false (by simp at h; omega)]
    rfl
set_option maxHeartbeats 8000000 in
set_option maxRecDepth 100000 in
theorem goodname_any (l : By) (w : World) (hsz : l.length ≤ 140737488355328) : Calls Try.prog 62 #[.string (mkS l)] w fun e w' => e = .returned (.bool (nameOk l)) ∧ Below w.heap.size w w' := by
  obtain ⟨F, hF⟩ : ∃ F, nameOk l = F := ⟨_, rfl⟩
  rw [hF]
  have HF := Lib.hid hF
  clear hF
  have hml := mkS_size l
  have HG := Lib.hid (mkS_get l)
  generalize mkS l = S at hml HG ⊢
  obtain ⟨n, hn⟩ : ∃ n, S.size = n := ⟨_, rfl⟩
  rw [hn] at hml
  have HL := Lib.hid hml.symm
  have hn63 : n ≤ 140737488355328 := by omega
  clear hml
  go_enter Try.func62, Try.ntmps62
  go_wp2_with fail
  go_loopw [8] (fun i wr => ∃ k : Nat, k ≤ n ∧ i = .int .i64 k ∧ Hid (gdAt l k) ∧ wr = w) (fun i _ => n - (intOf i).toNat)
  case atStart => exact ⟨0, Nat.zero_le _, rfl, Lib.hid (fun i c hi => absurd hi (Nat.not_lt_zero _)), rfl⟩
  case round =>
    obtain ⟨k, hk, rfl, HT, hwe⟩ := hrel
    have hwe := hwe.symm
    subst hwe
    by_cases hlt : k < n
    case neg =>
      obtain rfl : k = n := by omega
      by_cases h0 : 0 < k
      · by_cases h20 : k ≤ 20
        · obtain rfl : F = true := by rw [← HF.out]; exact gd_yes (by rw [HL.out]; exact HT.out) (by rw [HL.out]; exact h0) (by rw [HL.out]; exact h20)
          go_wp2_with fail
          go_ret
          exact ⟨by simp; omega, Below.refl _ _⟩
        · obtain rfl : F = false := by rw [← HF.out]; exact long_no (Or.inl (by rw [HL.out]; omega))
          go_wp2_with fail
          go_ret
          exact ⟨by simp; omega, Below.refl _ _⟩
      · obtain rfl : F = false := by rw [← HF.out]; exact long_no (Or.inr (by rw [HL.out]; omega))
        go_wp2_with fail
        go_ret
        exact ⟨rfl, Below.refl _ _⟩
    have hlk : k < l.length := by rw [HL.out]; exact hlt
    have hks : k < S.size := by rw [hn]; exact hlt
    obtain ⟨d, hd⟩ : ∃ d, l[k]? = some d := ⟨_, List.getElem?_eq_getElem hlk⟩
    obtain ⟨m, hm⟩ : ∃ m, d.toNat = m := ⟨_, rfl⟩
    have hgk : (S[k]'hks).toNat = m := by
      rw [HG.out k hks hlk, (List.getElem?_eq_some_iff.1 hd).2]
      exact hm
    have HGK := Lib.hid hgk
    clear hlk
    go_upto_region 5 with (fail)
    by_cases g1 : 97 ≤ m
    · by_cases g2 : m ≤ 122
      · skip
        have HG : Hid (gdAt l (k + 1)) := Lib.hid (gdAt_succ HT.out hd (gd_nat_yes (by rw [hm]; omega)))
        clear hm hd
        go_wp2_with fail
        go_roundw
        case rel => exact ⟨k + 1, by omega, by go_num, HG, by trivial⟩
        case measure => simp [intOf]; omega
      · have g3 : ¬ m < 48 := by omega
        have g5 : 57 < m := by omega
        have q5 : decide ((m : Int) ≤ 122) = false := decide_eq_false (by omega)
        have q4 : ((m : Int) == 95) = false := beq_eq_false_iff_ne.2 (by omega)
        obtain rfl : F = false := by rw [← HF.out]; exact gd_no hd (gd_nat_no (by rw [hm]; omega))
        clear hm hd
        go_wp2_with fail
        go_ret
        exact ⟨rfl, Below.refl _ _⟩
    · by_cases g4 : m = 95
      · have q4 : ((m : Int) == 95) = true := by rw [g4]; rfl
        have HG : Hid (gdAt l (k + 1)) := Lib.hid (gdAt_succ HT.out hd (gd_nat_yes (by rw [hm]; omega)))
        clear hm hd g4
        go_wp2_with fail
        go_roundw
        case rel => exact ⟨k + 1, by omega, by go_num, HG, by trivial⟩
        case measure => simp [intOf]; omega
      · have q4 : ((m : Int) == 95) = false := beq_eq_false_iff_ne.2 (by omega)
        by_cases g5 : m < 48
        · skip
          obtain rfl : F = false := by rw [← HF.out]; exact gd_no hd (gd_nat_no (by rw [hm]; omega))
          clear hm hd
          go_wp2_with fail
          go_ret
          exact ⟨rfl, Below.refl _ _⟩
        · by_cases g6 : 57 < m
          · skip
            obtain rfl : F = false := by rw [← HF.out]; exact gd_no hd (gd_nat_no (by rw [hm]; omega))
            clear hm hd
            go_wp2_with fail
            go_ret
            exact ⟨rfl, Below.refl _ _⟩
          · by_cases g7 : k = 0
            · have q7 : ((k : Int) == 0) = true := by rw [g7]; rfl
              obtain rfl : F = false := by rw [← HF.out]; exact gd_no hd (gd_nat_no (by rw [hm]; omega))
              clear hm hd g7
              go_wp2_with fail
              go_ret
              exact ⟨rfl, Below.refl _ _⟩
            · have q7 : ((k : Int) == 0) = false := beq_eq_false_iff_ne.2 (by omega)
              have HG : Hid (gdAt l (k + 1)) := Lib.hid (gdAt_succ HT.out hd (gd_nat_yes (by rw [hm]; omega)))
              clear hm hd g7
              go_wp2_with fail
              go_roundw
              case rel => exact ⟨k + 1, by omega, by go_num, HG, by trivial⟩
              case measure => simp [intOf]; omega
end Go.Proofs.Ytlfhcjhbnakamaa.Lab
/-
  Blocks of the call's own that hold a struct.
-/
namespace Go.Gh
open Go.RowKit
set_option linter.unusedVariables false
theorem box_over {w : World} {b : Nat} {T : TypeId} {cs us : List Value} (h : w.heap[b]? = some (.cells cs.toArray T (0, 0))) (hl : cs.length = us.length) : (setCells w b 0 us).heap[b]? = some (.cells us.toArray T (0, 0)) := by
  have := row_stores us w 0 cs h
  rwa [setFrom_all _ _ hl] at this
section
variable {w : World} {B : Nat} {T : TypeId} {a b c d e f : Value}
theorem bx2 (h : w.heap[B]? = some (.cells #[a, b] T (0, 0))) : (w.cell? ⟨B, 0, none⟩ = some a ∧ w.cell? ⟨B, 1, none⟩ = some b) ∧ (w.frozen? ⟨B, 0, none⟩ = false ∧ w.frozen? ⟨B, 1, none⟩ = false) :=
  ⟨⟨(row_cell 0 _ h rfl).1, (row_cell 1 _ h rfl).1⟩, ⟨(row_cell 0 a h rfl).2, (row_cell 1 b h rfl).2⟩⟩
theorem bx3 (h : w.heap[B]? = some (.cells #[a, b, c] T (0, 0))) : (w.cell? ⟨B, 0, none⟩ = some a ∧ w.cell? ⟨B, 1, none⟩ = some b ∧ w.cell? ⟨B, 2, none⟩ = some c) ∧ (w.frozen? ⟨B, 0, none⟩ = false ∧ w.frozen? ⟨B, 1, none⟩ = false ∧ w.frozen? ⟨B, 2, none⟩ = false) :=
  ⟨⟨(row_cell 0 _ h rfl).1, (row_cell 1 _ h rfl).1, (row_cell 2 _ h rfl).1⟩, ⟨(row_cell 0 a h rfl).2, (row_cell 1 b h rfl).2, (row_cell 2 c h rfl).2⟩⟩
theorem bx4 (h : w.heap[B]? = some (.cells #[a, b, c, d] T (0, 0))) : (w.cell? ⟨B, 0, none⟩ = some a ∧ w.cell? ⟨B, 1, none⟩ = some b ∧ w.cell? ⟨B, 2, none⟩ = some c ∧ w.cell? ⟨B, 3, none⟩ = some d) ∧
    (w.frozen? ⟨B, 0, none⟩ = false ∧ w.frozen? ⟨B, 1, none⟩ = false ∧ w.frozen? ⟨B, 2, none⟩ = false ∧ w.frozen? ⟨B, 3, none⟩ = false) :=
  ⟨⟨(row_cell 0 _ h rfl).1, (row_cell 1 _ h rfl).1, (row_cell 2 _ h rfl).1, (row_cell 3 _ h rfl).1⟩, ⟨(row_cell 0 a h rfl).2, (row_cell 1 b h rfl).2, (row_cell 2 c h rfl).2, (row_cell 3 d h rfl).2⟩⟩
theorem bx6 (h : w.heap[B]? = some (.cells #[a, b, c, d, e, f] T (0, 0))) : (w.cell? ⟨B, 0, none⟩ = some a ∧ w.cell? ⟨B, 1, none⟩ = some b ∧ w.cell? ⟨B, 2, none⟩ = some c ∧ w.cell? ⟨B, 3, none⟩ = some d ∧ w.cell? ⟨B, 4, none⟩ = some e ∧ w.cell? ⟨B, 5, none⟩ = some f) ∧
    (w.frozen? ⟨B, 0, none⟩ = false ∧ w.frozen? ⟨B, 1, none⟩ = false ∧ w.frozen? ⟨B, 2, none⟩ = false ∧ w.frozen? ⟨B, 3, none⟩ = false ∧ w.frozen? ⟨B, 4, none⟩ = false ∧ w.frozen? ⟨B, 5, none⟩ = false) :=
  ⟨⟨(row_cell 0 _ h rfl).1, (row_cell 1 _ h rfl).1, (row_cell 2 _ h rfl).1, (row_cell 3 _ h rfl).1, (row_cell 4 _ h rfl).1, (row_cell 5 _ h rfl).1⟩, ⟨(row_cell 0 a h rfl).2, (row_cell 1 b h rfl).2, (row_cell 2 c h rfl).2, (row_cell 3 d h rfl).2, (row_cell 4 e h rfl).2, (row_cell 5 f h rfl).2⟩⟩
end
end Go.Gh
/-
  Labels: the walks of Check and LabelsFault.
-/
namespace Go.Proofs.Ytlfhcjhbnakamaa.Lab
open Go.RowKit Go.Gh
set_option linter.unusedVariables false
set_option linter.unusedSimpArgs false
theorem drop_at' {α : Type} {L : List α} {k : Nat} {x : α} (h : L[k]? = some x) : L.drop k = x :: L.drop (k + 1) := by
  obtain ⟨h1, h2⟩ := List.getElem?_eq_some_iff.1 h
  rw [← h2, List.drop_eq_getElem_cons h1]
set_option maxHeartbeats 8000000 in
set_option maxRecDepth 100000 in
theorem lbcheck_any (v : Value) (L : List Lb) (w : World) (hs : Sp LbR 2 w v L) : Calls Try.prog 60 #[v] w fun e w' => e = .returned (.int .i64 (labelF L)) ∧ Below w.heap.size w w' := by
  obtain ⟨n, hn⟩ : ∃ n, L.length = n := ⟨_, rfl⟩
  obtain ⟨ao, c, rfl, hnc, hc⟩ := hs.shapeN hn
  have HN := Lib.hid hn
  obtain ⟨F, hF⟩ : ∃ F, labelF L = F := ⟨_, rfl⟩
  rw [hF]
  have HS := Lib.hid hs
  by_cases hbig : 10 < n
  · have hF2 : F = 2 := by rw [← hF]; exact if_pos (by omega)
    clear hn hF hs
    subst hF2
    go_enter Try.func60, Try.ntmps60
    go_wp2_with fail
    go_ret
    exact ⟨rfl, Below.refl _ _⟩
  have HG : Hid (F = goL none L) := Lib.hid (by rw [← hF]; exact if_neg (by omega))
  clear hn hF hs
  go_enter Try.func60, Try.ntmps60
  go_wp2_with fail
  go_loopw [3, 11] (fun s i wr => ∃ (k : Nat) (p : Option By) (T : ByteArray), k ≤ n ∧ i = .int .i64 k ∧ s = .string T ∧ Hid (T = mkS (lastN p)) ∧ Hid (F = goL p (L.drop k)) ∧ Below w.heap.size w wr) (fun _ i _ => n - (intOf i).toNat)
  case atStart => exact ⟨0, none, ⟨#[]⟩, Nat.zero_le _, rfl, rfl, Lib.hid rfl, HG, Below.refl _ _⟩
  case round =>
    obtain ⟨k, p, T, hk, rfl, rfl, HT, HF, hbr⟩ := hrel
    by_cases hlt : k < n
    case neg =>
      obtain rfl : k = n := by omega
      have h0 : F = 0 := by rw [HF.out, List.drop_of_length_le (Nat.le_of_eq HN.out)]; rfl
      subst h0
      go_wp2_with fail
      go_ret
      exact ⟨rfl, hbr⟩
    obtain ⟨x, hx⟩ : ∃ x, L[k]? = some x := ⟨_, List.getElem?_eq_getElem (by rw [HN.out]; exact hlt)⟩
    obtain ⟨b, off, cs, rfl, ⟨rfl, hb1, hb2⟩, _, hck⟩ := (HS.out.below lbR_mono hbr).get hx
    have HF2 : Hid (F = if nameOk x.nm = false then 4 else if badO p x.nm = true then 5 else if 40 < x.vl.length then 2 else goL (some x.nm) (L.drop (k + 1))) := Lib.hid (by rw [HF.out, drop_at' hx, goL_cons])
    have c0 := hck 0 _ rfl
    have c1 := hck 1 _ rfl
    rw [Nat.add_zero] at c0
    have HNC := Lib.hid (fun w => name_any x.nm w hb1)
    have HLB : Hid (nameOk x.nm = true → (Op.bytesLess (mkS x.nm).toList T.toList || (mkS x.nm).toList == T.toList) = badO p x.nm) := Lib.hid (fun h => by
      rw [HT.out, mkS_list, mkS_list]
      exact bad_le p (nameOk_all h).1)
    have HVS : Hid ((mkS x.vl).size = x.vl.length) := Lib.hid (mkS_size _)
    have HNX : Hid (mkS x.nm = mkS (lastN (some x.nm))) := Lib.hid rfl
    generalize hSx : mkS x.nm = S at *
    generalize mkS x.vl = V at *
    obtain ⟨B, hB⟩ : ∃ B, nameOk x.nm = B := ⟨_, rfl⟩
    rw [hB] at HF2 HNC HLB
    obtain ⟨O, hO⟩ : ∃ O, badO p x.nm = O := ⟨_, rfl⟩
    rw [hO] at HF2 HLB
    obtain ⟨q, hq⟩ : ∃ q, x.vl.length = q := ⟨_, rfl⟩
    rw [hq] at HF2 HVS
    clear hck hx HF hB hO hq hb1 hb2 hSx
    have hBa := hbr.alloc hbr.size (Obj.cells #[.string S, .string V] 67)
    have hbox := heap_alloc_new wr (Obj.cells #[.string S, .string V] 67)
    have HBA := Lib.hid hBa
    have HBX := Lib.hid hbox
    clear hbox
    cases B with
    | false =>
      have h4 : F = 4 := by rw [HF2.out, if_pos rfl]
      subst h4
      go_wp2_with fail
      refine (HNC.out _).mono ?_
      rintro e w2 ⟨rfl, hb2⟩
      go_wp2_with fail
      go_ret
      exact ⟨rfl, HBA.out.trans (hb2.mono HBA.out.size)⟩
    | true =>
    go_wp2_with fail
    refine (HNC.out _).mono ?_
    rintro e w2 ⟨rfl, hb2⟩
    have HB2 := Lib.hid (HBA.out.trans (hb2.mono HBA.out.size))
    obtain ⟨⟨x0, x1⟩, -⟩ := bx2 ((hb2.block _ (Array.getElem?_eq_some_iff.1 HBX.out).1).trans HBX.out)
    have hlb := HLB.out (by trivial)
    clear hb2 hBa
    generalize hb1 : Op.bytesLess S.toList T.toList = b1 at *
    generalize hb2 : (S.toList == T.toList) = b2 at *
    cases O with
    | true =>
      have h5 : F = 5 := by rw [HF2.out, if_neg (by decide), if_pos rfl]
      subst h5
      cases b1 with
      | true =>
        clear hlb
        go_wp2_with fail
        go_ret
        exact ⟨rfl, HB2.out⟩
      | false =>
        obtain rfl : b2 = true := by simpa using hlb
        clear hlb
        go_wp2_with fail
        go_ret
        exact ⟨rfl, HB2.out⟩
    | false =>
    obtain ⟨rfl, rfl⟩ : b1 = false ∧ b2 = false := by simpa using hlb
    clear hlb
    have hvq := HVS.out
    by_cases h40 : 40 < q
    · have h2 : F = 2 := by rw [HF2.out, if_neg (by decide), if_neg (by decide), if_pos h40]
      subst h2
      go_wp2_with fail
      go_ret
      exact ⟨rfl, HB2.out⟩
    · have HF3 : Hid (F = goL (some x.nm) (L.drop (k + 1))) := Lib.hid (by rw [HF2.out, if_neg (by decide), if_neg (by decide), if_neg h40])
      go_wp2_with fail
      go_roundw
      case rel => exact ⟨k + 1, some x.nm, S, by omega, by go_num, rfl, HNX, HF3, HB2.out⟩
      case measure => simp [intOf]; omega
end Go.Proofs.Ytlfhcjhbnakamaa.Lab
/-
  Labels: the walk of LabelsFault.
-/
namespace Go.Proofs.Ytlfhcjhbnakamaa.Lab
open Go.RowKit Go.Gh
set_option linter.unusedVariables false
set_option linter.unusedSimpArgs false
/-- The name ahead. -/
def prevN (L : List Lb) (k : Nat) : Option By := if k = 0 then none else (L[k - 1]?).map Lb.nm
set_option maxHeartbeats 8000000 in
set_option maxRecDepth 100000 in
theorem lbfault_any (v : Value) (L : List Lb) (w : World) (hs : Sp LbR 2 w v L) : Calls Try.prog 39 #[v] w fun e w' => e = .returned (.int .i64 (labelF L)) ∧ Below w.heap.size w w' := by
  obtain ⟨n, hn⟩ : ∃ n, L.length = n := ⟨_, rfl⟩
  obtain ⟨ao, c, rfl, hnc, hc⟩ := hs.shapeN hn
  have HN := Lib.hid hn
  obtain ⟨F, hF⟩ : ∃ F, labelF L = F := ⟨_, rfl⟩
  rw [hF]
  have HS := Lib.hid hs
  by_cases hbig : 10 < n
  · have hF2 : F = 2 := by rw [← hF]; exact if_pos (by omega)
    clear hn hF hs
    subst hF2
    go_enter Try.func39, Try.ntmps39
    go_wp2_with fail
    go_ret
    exact ⟨rfl, Below.refl _ _⟩
  have HG : Hid (F = goL none L) := Lib.hid (by rw [← hF]; exact if_neg (by omega))
  clear hn hF hs
  go_enter Try.func39, Try.ntmps39
  go_wp2_with fail
  go_loopw [10] (fun i wr => ∃ k : Nat, k ≤ n ∧ i = .int .i64 k ∧ Hid (F = goL (prevN L k) (L.drop k)) ∧ Below w.heap.size w wr) (fun i _ => n - (intOf i).toNat)
  case atStart => exact ⟨0, Nat.zero_le _, rfl, HG, Below.refl _ _⟩
  case round =>
    obtain ⟨k, hk, rfl, HF, hbr⟩ := hrel
    by_cases hlt : k < n
    case neg =>
      obtain rfl : k = n := by omega
      have h0 : F = 0 := by rw [HF.out, List.drop_of_length_le (Nat.le_of_eq HN.out)]; rfl
      subst h0
      go_wp2_with fail
      go_ret
      exact ⟨rfl, hbr⟩
    obtain ⟨x, hx⟩ : ∃ x, L[k]? = some x := ⟨_, List.getElem?_eq_getElem (by rw [HN.out]; exact hlt)⟩
    obtain ⟨b, off, cs, rfl, ⟨rfl, hb1, hb2⟩, _, hck⟩ := (HS.out.below lbR_mono hbr).get hx
    have HF2 : Hid (F = if nameOk x.nm = false then 4 else if badO (prevN L k) x.nm = true then 5 else if 40 < x.vl.length then 2 else goL (some x.nm) (L.drop (k + 1))) := Lib.hid (by rw [HF.out, drop_at' hx, goL_cons])
    have c0 := hck 0 _ rfl
    have c1 := hck 1 _ rfl
    rw [Nat.add_zero] at c0
    have HNC := Lib.hid (fun w => goodname_any x.nm w hb1)
    have HVS : Hid ((mkS x.vl).size = x.vl.length) := Lib.hid (mkS_size _)
    have HPN : Hid (prevN L (k + 1) = some x.nm) := Lib.hid (by unfold prevN; rw [if_neg (by omega), Nat.add_sub_cancel, hx]; rfl)
    have hcase : (k = 0 ∧ badO (prevN L k) x.nm = false) ∨ ∃ (j : Nat) (T : ByteArray), k = j + 1 ∧ wr.cell? ⟨b, off + j * 2, none⟩ = some (.string T) ∧ (nameOk x.nm = true → (Op.bytesLess (mkS x.nm).toList T.toList || (mkS x.nm).toList == T.toList) = badO (prevN L k) x.nm) := by
      by_cases h0 : k = 0
      · exact Or.inl ⟨h0, by rw [h0]; rfl⟩
      · obtain ⟨j, rfl⟩ : ∃ j, k = j + 1 := ⟨k - 1, by omega⟩
        obtain ⟨y, hy⟩ : ∃ y, L[j]? = some y := ⟨_, List.getElem?_eq_getElem (by rw [HN.out]; omega)⟩
        obtain ⟨b', off', cs', e', ⟨rfl, -, -⟩, _, hck'⟩ := (HS.out.below lbR_mono hbr).get hy
        injection e' with e'
        injection e' with e1 e2
        have d0 := hck' 0 _ rfl
        rw [Nat.add_zero, ← e1, ← e2] at d0
        refine Or.inr ⟨j, _, rfl, d0, fun h => ?_⟩
        have hp : prevN L (j + 1) = some y.nm := by unfold prevN; rw [if_neg (by omega), Nat.add_sub_cancel, hy]; rfl
        rw [hp, mkS_list, mkS_list]
        exact bad_le (some y.nm) (nameOk_all h).1
    generalize hSx : mkS x.nm = S at *
    generalize mkS x.vl = V at *
    obtain ⟨B, hB⟩ : ∃ B, nameOk x.nm = B := ⟨_, rfl⟩
    rw [hB] at HF2 HNC hcase
    obtain ⟨O, hO⟩ : ∃ O, badO (prevN L k) x.nm = O := ⟨_, rfl⟩
    rw [hO] at HF2 hcase
    obtain ⟨q, hq⟩ : ∃ q, x.vl.length = q := ⟨_, rfl⟩
    rw [hq] at HF2 HVS
    have HCASE := Lib.hid hcase
    clear hck hx HF hB hO hq hb1 hb2 hSx hcase
    have hBa := hbr.alloc hbr.size (Obj.cells #[.string S, .string V] 67)
    have hbox := heap_alloc_new wr (Obj.cells #[.string S, .string V] 67)
    have HBA := Lib.hid hBa
    have HBX := Lib.hid hbox
    clear hbox
    cases B with
    | false =>
      have h4 : F = 4 := by rw [HF2.out, if_pos rfl]
      subst h4
      go_wp2_with fail
      refine (HNC.out _).mono ?_
      rintro e w2 ⟨rfl, hb2⟩
      go_wp2_with fail
      go_ret
      exact ⟨rfl, HBA.out.trans (hb2.mono HBA.out.size)⟩
    | true =>
    go_wp2_with fail
    refine (HNC.out _).mono ?_
    rintro e w2 ⟨rfl, hb2⟩
    have HB2 := Lib.hid (HBA.out.trans (hb2.mono HBA.out.size))
    obtain ⟨⟨x0, x1⟩, -⟩ := bx2 ((hb2.block _ (Array.getElem?_eq_some_iff.1 HBX.out).1).trans HBX.out)
    clear hBa
    have HCB : Hid (Below wr.heap.size wr w2) := Lib.hid (((Below.refl wr.heap.size wr).alloc (Nat.le_refl _) _).trans (hb2.mono (by simp)))
    clear hb2
    have hvq := HVS.out
    have hF2 := HF2.out
    rcases HCASE.out with ⟨rfl, rfl⟩ | ⟨j, T, hkj, d0, hlb⟩
    · by_cases h40 : 40 < q
      · have h2 : F = 2 := by rw [hF2, if_neg (by decide), if_neg (by decide), if_pos h40]
        clear hF2
        subst h2
        go_wp2_with fail
        go_quiet (fail)
        go_wp2_with fail
        go_ret
        exact ⟨rfl, below_drewN HB2.out _⟩
      · have HF3 : Hid (F = goL (prevN L (0 + 1)) (L.drop (0 + 1))) := Lib.hid (by rw [hF2, if_neg (by decide), if_neg (by decide), if_neg h40, HPN.out])
        clear hF2
        go_wp2_with fail
        go_quiet (fail)
        go_wp2_with fail
        go_roundw
        case rel => exact ⟨0 + 1, by omega, by go_num, HF3, below_drewN HB2.out _⟩
        case measure => simp [intOf]; omega
    have hlb := hlb (by trivial)
    have d0 := (HCB.out.cell (p := ⟨b, off + j * 2, none⟩) (cell_lt d0)).trans d0
    have hkj2 : (k : Int) - 1 = (j : Int) := by omega
    have hw1 : IntKind.i64.wrap ((k : Int) - 1) = (j : Int) := by rw [IntKind.wrap_i64]; omega
    have hw2 : IntKind.i64.wrap (j : Int) = (j : Int) := by rw [IntKind.wrap_i64]; omega
    have hj0 : (0 : Int) ≤ (j : Int) := by omega
    have hj1 : (j : Int) < (n : Int) := by omega
    have hj2 : j < n := by omega
    have hk0 : 0 < k := by omega
    have HKJ := Lib.hid hkj
    clear hkj
    generalize hb1 : Op.bytesLess S.toList T.toList = b1 at *
    generalize hb2 : (S.toList == T.toList) = b2 at *
    cases O with
    | true =>
      have h5 : F = 5 := by rw [hF2, if_neg (by decide), if_pos rfl]
      clear hF2
      subst h5
      cases b1 with
      | true =>
        clear hlb
        go_wp2_with fail
        go_quiet (fail)
        go_wp2_with fail
        go_ret
        exact ⟨rfl, below_drewN HB2.out _⟩
      | false =>
        obtain rfl : b2 = true := by simpa using hlb
        clear hlb
        go_wp2_with fail
        go_quiet (fail)
        go_wp2_with fail
        go_ret
        exact ⟨rfl, below_drewN HB2.out _⟩
    | false =>
    obtain ⟨rfl, rfl⟩ : b1 = false ∧ b2 = false := by simpa using hlb
    clear hlb
    by_cases h40 : 40 < q
    · have h2 : F = 2 := by rw [hF2, if_neg (by decide), if_neg (by decide), if_pos h40]
      clear hF2
      subst h2
      go_wp2_with fail
      go_quiet (fail)
      go_wp2_with fail
      go_ret
      exact ⟨rfl, below_drewN HB2.out _⟩
    · have HF3 : Hid (F = goL (prevN L (k + 1)) (L.drop (k + 1))) := Lib.hid (by rw [hF2, if_neg (by decide), if_neg (by decide), if_neg h40, HPN.out])
      clear hF2
      go_wp2_with fail
      go_quiet (fail)
      go_wp2_with fail
      go_roundw
      case rel => exact ⟨k + 1, by omega, by go_num, HF3, below_drewN HB2.out _⟩
      case measure => simp [intOf]; omega
end Go.Proofs.Ytlfhcjhbnakamaa.Lab
