/-
  Ranks: a number more, lists carried: as plain functions.
-/
import Derived.Test.YtcljeedmiobepaaRkLaw
namespace Go.Gh
set_option linter.unusedVariables false
/-- How many are less. -/
def cntLt (x : Int) (l : List Int) : Nat := l.countP fun v => decide (v < x)
/-- A number put in, ahead of its equals. -/
def insS (l : List Int) (v : Int) : List Int := l.take (cntLt v l) ++ v :: l.drop (cntLt v l)
/-- Behind its equals. -/
def insB : List Int → Int → List Int
  | [], v => [v]
  | x :: r, v => if v < x then v :: x :: r else x :: insB r v
theorem cntLt_le (x : Int) (l : List Int) : cntLt x l ≤ l.length := List.countP_le_length
theorem cntLt_cons {x v : Int} {r : List Int} : cntLt v (x :: r) = cntLt v r + if x < v then 1 else 0 := by
  unfold cntLt
  rw [List.countP_cons]
  by_cases h : x < v
  · rw [if_pos (by simpa using h), if_pos h]
  · rw [if_neg (by simpa using h), if_neg h]
theorem cntLt_none {v : Int} {l : List Int} (h : ∀ x ∈ l, v ≤ x) : cntLt v l = 0 := by
  unfold cntLt
  refine List.countP_eq_zero.2 fun x hx => ?_
  have := h x hx
  simp
  omega
theorem insB_low : ∀ {l : List Int} {v : Int}, (∀ x ∈ l, v ≤ x) → l.Pairwise (· ≤ ·) → insB l v = v :: l
  | [], v, _, _ => rfl
  | x :: r, v, h, hp => by
    rw [insB]
    split
    · rfl
    · have hx := h x (by simp)
      obtain rfl : x = v := by omega
      rw [insB_low (fun y hy => h y (by simp [hy])) (List.pairwise_cons.1 hp).2]
theorem insS_insB : ∀ {l : List Int} {v : Int}, l.Pairwise (· ≤ ·) → insS l v = insB l v
  | [], v, _ => rfl
  | x :: r, v, hp => by
    obtain ⟨h1, h2⟩ := List.pairwise_cons.1 hp
    by_cases hlt : x < v
    · have ih := insS_insB (l := r) (v := v) h2
      unfold insS at ih ⊢
      rw [cntLt_cons, if_pos hlt, List.take_succ_cons, List.drop_succ_cons, List.cons_append, ih, insB, if_neg (by omega)]
    · have h3 : ∀ y ∈ x :: r, v ≤ y := fun y hy => by
        rcases List.mem_cons.1 hy with rfl | hy
        · omega
        · have := h1 y hy
          omega
      unfold insS
      rw [cntLt_none h3, insB_low h3 hp]
      rfl
theorem insB_perm : ∀ (l : List Int) (v : Int), (insB l v).Perm (v :: l)
  | [], v => List.Perm.refl _
  | x :: r, v => by
    rw [insB]
    split
    · exact List.Perm.refl _
    · exact ((insB_perm r v).cons x).trans (List.Perm.swap v x r)
theorem insB_len (l : List Int) (v : Int) : (insB l v).length = l.length + 1 := by rw [(insB_perm l v).length_eq]; rfl
theorem insB_sort : ∀ {l : List Int} {v : Int}, l.Pairwise (· ≤ ·) → (insB l v).Pairwise (· ≤ ·)
  | [], v, _ => List.pairwise_singleton _ _
  | x :: r, v, hp => by
    obtain ⟨h1, h2⟩ := List.pairwise_cons.1 hp
    rw [insB]
    split
    · rename_i hlt
      refine List.pairwise_cons.2 ⟨fun y hy => ?_, hp⟩
      rcases List.mem_cons.1 hy with rfl | hy
      · omega
      · have := h1 y hy
        omega
    · rename_i hge
      refine List.pairwise_cons.2 ⟨fun y hy => ?_, insB_sort h2⟩
      rcases List.mem_cons.1 ((insB_perm r v).mem_iff.1 hy) with rfl | hy
      · omega
      · exact h1 y hy
def foldB (l m : List Int) : List Int := m.foldl insB l
theorem foldB_sort : ∀ {m l : List Int}, l.Pairwise (· ≤ ·) → (foldB l m).Pairwise (· ≤ ·)
  | [], l, h => h
  | v :: m, l, h => foldB_sort (m := m) (insB_sort h)
theorem foldB_perm : ∀ (m l : List Int), (foldB l m).Perm (l ++ m)
  | [], l => by rw [List.append_nil]; exact List.Perm.refl _
  | v :: m, l => by
    refine (foldB_perm m (insB l v)).trans ?_
    refine ((insB_perm l v).append_right m).trans ?_
    rw [List.cons_append]
    exact List.perm_middle.symm
theorem foldB_take {l m : List Int} {j : Nat} {v : Int} (h : m[j]? = some v) : foldB l (m.take (j + 1)) = insB (foldB l (m.take j)) v := by
  obtain ⟨h1, h2⟩ := List.getElem?_eq_some_iff.1 h
  unfold foldB
  rw [List.take_succ_eq_append_getElem h1, h2, List.foldl_append]
  rfl
theorem sorted_uniq : ∀ {a b : List Int}, a.Perm b → a.Pairwise (· ≤ ·) → b.Pairwise (· ≤ ·) → a = b
  | [], b, hp, _, _ => (List.nil_perm.1 hp).symm
  | x :: a, [], hp, _, _ => by have := hp.length_eq; simp at this
  | x :: a, y :: b, hp, ha, hb => by
    obtain ⟨h1, h2⟩ := List.pairwise_cons.1 ha
    obtain ⟨h3, h4⟩ := List.pairwise_cons.1 hb
    have hxy : x = y := by
      have e1 : x ≤ y := by
        rcases List.mem_cons.1 (hp.mem_iff.2 (List.mem_cons_self (a := y) (l := b))) with h | h
        · omega
        · exact h1 y h
      have e2 : y ≤ x := by
        rcases List.mem_cons.1 (hp.mem_iff.1 (List.mem_cons_self (a := x) (l := a))) with h | h
        · omega
        · exact h3 x h
      omega
    subst hxy
    rw [sorted_uniq (List.Perm.cons_inv hp) h2 h4]
theorem foldB_merge {l m : List Int} (h : l.Pairwise (· ≤ ·)) {ss : List Int} (hp : ss.Perm (l ++ m)) (hs : ss.Pairwise (· ≤ ·)) : foldB l m = ss :=
  sorted_uniq ((foldB_perm m l).trans hp.symm) (foldB_sort h) hs
/-- Every other one, from the second on. -/
def odds : List Int → List Int
  | [] => []
  | [_] => []
  | _ :: y :: r => y :: odds r
/-- Those at odd places, as far as j. -/
def oddTo (l : List Int) : Nat → List Int
  | 0 => []
  | j + 1 => match l[j]? with
    | none => oddTo l j
    | some v => if j % 2 = 1 then oddTo l j ++ [v] else oddTo l j
theorem oddTo_step {l : List Int} {j : Nat} {v : Int} (h : l[j]? = some v) : oddTo l (j + 1) = if j % 2 = 1 then oddTo l j ++ [v] else oddTo l j := by rw [oddTo, h]
theorem oddTo_len {l : List Int} : ∀ j, (oddTo l j).length ≤ j
  | 0 => Nat.le_refl _
  | j + 1 => by
    have ih := oddTo_len (l := l) j
    rw [oddTo]
    split
    · omega
    · split
      · rw [List.length_append, List.length_singleton]; omega
      · omega
theorem oddTo_two {l : List Int} {j : Nat} {v : Int} (hj : j % 2 = 1) (h : l[j]? = some v) : oddTo l (j + 2) = oddTo l j ++ [v] ∧ oddTo l (j + 1) = oddTo l j ++ [v] := by
  have h1 : oddTo l (j + 1) = oddTo l j ++ [v] := by rw [oddTo_step h, if_pos hj]
  refine ⟨?_, h1⟩
  rw [show j + 2 = (j + 1) + 1 from rfl, oddTo]
  split
  · exact h1
  · rw [if_neg (by omega)]; exact h1
theorem oddTo_end {l : List Int} : ∀ (j : Nat), l.length ≤ j → oddTo l j = oddTo l l.length
  | 0, h => by have : l.length = 0 := by omega
               rw [this]
  | j + 1, h => by
    rcases Nat.lt_or_ge j l.length with hlt | hge
    · rw [show l.length = j + 1 by omega]
    · rw [oddTo, List.getElem?_eq_none hge]
      exact oddTo_end j hge
def halfS (l : List Int) : List Int := oddTo l l.length
def pad (lv : List (List Int)) (n : Nat) : List (List Int) := lv ++ List.replicate (n - lv.length) []
/-- A list carried to a level. -/
def carryG (lv : List (List Int)) (sl : Int) (l : List Int) (lev : Nat) : List (List Int) × Int :=
  if h : lev < lv.length then
    if lv[lev].length = 0 then (lv.set lev l, sl)
    else carryG (lv.set lev []) (sl + 2 ^ lev) (halfS ((lv[lev] ++ l).mergeSort fun x y => decide (x ≤ y))) (lev + 1)
  else ((pad lv (lev + 1)).set lev l, sl)
termination_by lv.length - lev
decreasing_by rw [List.length_set]; omega
theorem carryG_out {lv : List (List Int)} {sl : Int} {l : List Int} {lev : Nat} (h : lv.length ≤ lev) : carryG lv sl l lev = ((pad lv (lev + 1)).set lev l, sl) := by
  rw [carryG, dif_neg (by omega)]
theorem carryG_put {lv : List (List Int)} {sl : Int} {l a : List Int} {lev : Nat} (h : lv[lev]? = some a) (ha : a.length = 0) : carryG lv sl l lev = (lv.set lev l, sl) := by
  obtain ⟨h1, h2⟩ := List.getElem?_eq_some_iff.1 h
  rw [carryG, dif_pos h1, h2, if_pos ha]
theorem carryG_on {lv : List (List Int)} {sl : Int} {l a : List Int} {lev : Nat} (h : lv[lev]? = some a) (ha : ¬ a.length = 0) : carryG lv sl l lev = carryG (lv.set lev []) (sl + 2 ^ lev) (halfS ((a ++ l).mergeSort fun x y => decide (x ≤ y))) (lev + 1) := by
  obtain ⟨h1, h2⟩ := List.getElem?_eq_some_iff.1 h
  rw [carryG, dif_pos h1, h2, if_neg ha]
/-- A number more. -/
def addG (s : Rk) (v : Int) : Rk := if ((insB s.tl v).length : Int) = s.k then ⟨s.k, [], (carryG s.lv s.sl (insB s.tl v) 0).1, s.n + 1, (carryG s.lv s.sl (insB s.tl v) 0).2⟩ else ⟨s.k, insB s.tl v, s.lv, s.n + 1, s.sl⟩
def rk0 : Rk := ⟨0, [], [], 0, 0⟩
def boundG (s : Rk) : Rk × Int := if 20 < s.lv.length ∨ 1152921504606846976 < s.sl then (rk0, 2) else (s, 0)
end Go.Gh
