/-
  Ranks: as plain functions.
-/
import Derived.Test.YtcljeedmiobepaaLib
namespace Go.Gh
set_option linter.unusedVariables false
structure Rk where
  k : Int
  tl : List Int
  lv : List (List Int)
  n : Int
  sl : Int
def sortB (l : List Int) : Bool := decide (l.Pairwise (· ≤ ·))
theorem sort_adj : ∀ {l : List Int}, l.Pairwise (· ≤ ·) ↔ ∀ (i : Nat) (a b : Int), l[i]? = some a → l[i + 1]? = some b → a ≤ b
  | [] => ⟨fun _ i a b h => by simp at h, fun _ => List.Pairwise.nil⟩
  | [x] => ⟨fun _ i a b h1 h2 => by simp at h2, fun _ => List.pairwise_singleton _ _⟩
  | x :: y :: r => by
    have ih := sort_adj (l := y :: r)
    constructor
    · intro h i a b h1 h2
      cases i with
      | zero =>
        have e1 : x = a := by simpa using h1
        have e2 : y = b := by simpa using h2
        subst e1 e2
        exact (List.pairwise_cons.1 h).1 _ (by simp)
      | succ i => exact ih.1 (List.pairwise_cons.1 h).2 i a b (by simpa using h1) (by simpa using h2)
    · intro h
      have h0 := h 0 x y rfl rfl
      have h1 := ih.2 (fun i a b e1 e2 => h (i + 1) a b (by simpa using e1) (by simpa using e2))
      refine List.pairwise_cons.2 ⟨fun z hz => ?_, h1⟩
      rcases List.mem_cons.1 hz with rfl | hz
      · exact h0
      · have := (List.pairwise_cons.1 h1).1 z hz
        omega
theorem sortB_false {l : List Int} {i : Nat} {a b : Int} (h1 : l[i]? = some a) (h2 : l[i + 1]? = some b) (h : b < a) : sortB l = false :=
  decide_eq_false fun hs => by have := sort_adj.1 hs i a b h1 h2; omega
theorem sortB_true {l : List Int} (h : ∀ (i : Nat) (a b : Int), l[i]? = some a → l[i + 1]? = some b → a ≤ b) : sortB l = true := decide_eq_true (sort_adj.2 h)
def headR (s : Rk) : Bool := decide (2 ≤ s.k) && (decide (s.k ≤ 64) && (decide ((s.tl.length : Int) < s.k) && (decide (s.lv.length ≤ 20) && (sortB s.tl && (decide (0 ≤ s.sl) && decide (s.sl ≤ 1152921504606846976))))))
theorem headR_ok {s : Rk} : headR s = true ↔ (2 ≤ s.k ∧ s.k ≤ 64 ∧ (s.tl.length : Int) < s.k ∧ s.lv.length ≤ 20 ∧ sortB s.tl = true ∧ 0 ≤ s.sl ∧ s.sl ≤ 1152921504606846976) := by
  unfold headR
  simp only [Bool.and_eq_true, decide_eq_true_eq]
def lvOk (K : Int) (L i : Nat) (l : List Int) : Bool := (decide ((l.length : Int) = K) || (decide (l.length = 0) && decide (i + 1 < L))) && sortB l
def lvOkR (K : Int) (L i : Nat) (l : List Int) : Bool := sortB l && ((decide (l.length = 0) || decide ((l.length : Int) = K)) && (decide (0 < l.length) || decide (i + 1 < L)))
theorem lvOk_eq {K : Int} {L i : Nat} {l : List Int} (hK : 2 ≤ K) : lvOkR K L i l = lvOk K L i l := by
  unfold lvOkR lvOk
  cases sortB l with
  | false => rw [Bool.false_and, Bool.and_false]
  | true =>
    rw [Bool.true_and, Bool.and_true]
    by_cases h1 : (l.length : Int) = K
    · have h2 : 0 < l.length := by omega
      rw [decide_eq_true h1, decide_eq_true h2]
      simp
    · rw [decide_eq_false h1]
      by_cases h2 : l.length = 0
      · have h3 : ¬ 0 < l.length := by omega
        rw [decide_eq_true h2, decide_eq_false h3]
        simp
      · rw [decide_eq_false h2]
        simp
def okTo (H : Bool) (K : Int) (lv : List (List Int)) : Nat → Bool
  | 0 => H
  | i + 1 => match lv[i]? with
    | none => okTo H K lv i
    | some l => okTo H K lv i && lvOk K lv.length i l
def okToR (H : Bool) (K : Int) (lv : List (List Int)) : Nat → Bool
  | 0 => H
  | i + 1 => match lv[i]? with
    | none => okToR H K lv i
    | some l => okToR H K lv i && lvOkR K lv.length i l
theorem okTo_step {H : Bool} {K : Int} {lv : List (List Int)} {i : Nat} {l : List Int} (h : lv[i]? = some l) : okTo H K lv (i + 1) = (okTo H K lv i && lvOk K lv.length i l) := by rw [okTo, h]
theorem okToR_step {H : Bool} {K : Int} {lv : List (List Int)} {i : Nat} {l : List Int} (h : lv[i]? = some l) : okToR H K lv (i + 1) = (okToR H K lv i && lvOkR K lv.length i l) := by rw [okToR, h]
theorem okTo_head {H : Bool} {K : Int} {lv : List (List Int)} : ∀ {i : Nat}, okTo H K lv i = true → H = true
  | 0, h => h
  | i + 1, h => by
    rw [okTo] at h
    split at h
    · exact okTo_head h
    · rw [Bool.and_eq_true] at h
      exact okTo_head h.1
theorem okToR_eq {H : Bool} {K : Int} {lv : List (List Int)} (hK : H = true → 2 ≤ K) : ∀ i, okToR H K lv i = okTo H K lv i
  | 0 => rfl
  | i + 1 => by
    have ih := okToR_eq (H := H) (K := K) (lv := lv) hK i
    rw [okTo, okToR]
    split
    · exact ih
    · rw [ih]
      cases h : okTo H K lv i with
      | false => rw [Bool.false_and, Bool.false_and]
      | true => rw [lvOk_eq (hK (okTo_head h))]
def sumTo (s : Rk) : Nat → Int
  | 0 => s.tl.length
  | i + 1 => match s.lv[i]? with
    | none => sumTo s i
    | some l => sumTo s i + if l.length = 0 then 0 else s.k * 2 ^ i
theorem sumTo_step {s : Rk} {i : Nat} {l : List Int} (h : s.lv[i]? = some l) : sumTo s (i + 1) = sumTo s i + if l.length = 0 then 0 else s.k * 2 ^ i := by rw [sumTo, h]
def wellR (s : Rk) : Prop := okTo (headR s) s.k s.lv s.lv.length = true ∧ sumTo s s.lv.length = s.n
open Classical in
noncomputable def rankF (s : Rk) : Int := if wellR s then 0 else 4
theorem okTo_all {H : Bool} {K : Int} {lv : List (List Int)} : ∀ {i : Nat}, i ≤ lv.length → okTo H K lv i = true → ∀ (j : Nat) (l : List Int), j < i → lv[j]? = some l → lvOk K lv.length j l = true
  | 0, _, _, j, l, hj, _ => absurd hj (Nat.not_lt_zero _)
  | i + 1, hi, h, j, l, hj, hl => by
    obtain ⟨x, hx⟩ : ∃ x, lv[i]? = some x := ⟨_, List.getElem?_eq_getElem (by omega)⟩
    rw [okTo_step hx, Bool.and_eq_true] at h
    rcases Nat.lt_or_ge j i with hlt | hge
    · exact okTo_all (by omega) h.1 j l hlt hl
    · obtain rfl : j = i := by omega
      rw [hx] at hl
      obtain rfl := Option.some.inj hl
      exact h.2
theorem lvOk_parts {K : Int} {L i : Nat} {l : List Int} (h : lvOk K L i l = true) : ((l.length : Int) = K ∨ l.length = 0) ∧ sortB l = true := by
  unfold lvOk at h
  rw [Bool.and_eq_true, Bool.or_eq_true, Bool.and_eq_true, decide_eq_true_eq, decide_eq_true_eq] at h
  exact ⟨h.1.imp id And.left, h.2⟩
/-- What is known of a good rank. -/
theorem well_parts {s : Rk} (h : wellR s) : 2 ≤ s.k ∧ s.k ≤ 64 ∧ (s.tl.length : Int) < s.k ∧ s.lv.length ≤ 20 ∧ s.tl.Pairwise (· ≤ ·) ∧ ∀ l ∈ s.lv, ((l.length : Int) = s.k ∨ l.length = 0) ∧ l.Pairwise (· ≤ ·) := by
  obtain ⟨h1, h2, h3, h4, h5, _⟩ := headR_ok.1 (okTo_head h.1)
  refine ⟨h1, h2, h3, h4, of_decide_eq_true h5, fun l hl => ?_⟩
  obtain ⟨j, hj⟩ := List.mem_iff_getElem?.1 hl
  obtain ⟨h6, h7⟩ := lvOk_parts (okTo_all (Nat.le_refl _) h.1 j l (List.getElem?_eq_some_iff.1 hj).1 hj)
  exact ⟨h6, of_decide_eq_true h7⟩
theorem pow_le {i : Nat} (h : i ≤ 20) : 1 ≤ (2 : Int) ^ i ∧ (2 : Int) ^ i ≤ 1048576 := by
  have h1 : (2 : Nat) ^ i ≤ 2 ^ 20 := Nat.pow_le_pow_right (by decide) h
  have h2 : 1 ≤ (2 : Nat) ^ i := Nat.one_le_two_pow
  have h3 : ((2 ^ i : Nat) : Int) = (2 : Int) ^ i := by push_cast; rfl
  omega
theorem mul_bnd {c p : Int} {C P : Int} (h0 : 0 ≤ c) (h1 : c ≤ C) (h2 : 0 ≤ p) (h3 : p ≤ P) : 0 ≤ c * p ∧ c * p ≤ C * P :=
  ⟨Int.mul_nonneg h0 h2, Int.mul_le_mul h1 h3 h2 (by omega)⟩
theorem sumTo_bd {s : Rk} (h1 : 0 ≤ s.k) (h2 : s.k ≤ 64) (h3 : (s.tl.length : Int) ≤ 64) : ∀ i, i ≤ 20 → 0 ≤ sumTo s i ∧ sumTo s i ≤ 64 + 67108864 * i
  | 0, _ => by rw [sumTo]; omega
  | i + 1, hi => by
    have ih := sumTo_bd h1 h2 h3 i (by omega)
    have hp := pow_le (i := i) (by omega)
    have hm := mul_bnd h1 h2 (by omega) hp.2
    rw [sumTo]
    split
    · omega
    · split <;> omega
/-- How many are not above x. -/
def cntLe (x : Int) (l : List Int) : Nat := l.countP fun v => decide (v ≤ x)
theorem cntLe_le (x : Int) (l : List Int) : cntLe x l ≤ l.length := List.countP_le_length
theorem cntLe_take {x v : Int} {l : List Int} {j : Nat} (h : l[j]? = some v) : cntLe x (l.take (j + 1)) = cntLe x (l.take j) + if v ≤ x then 1 else 0 := by
  obtain ⟨h1, h2⟩ := List.getElem?_eq_some_iff.1 h
  unfold cntLe
  rw [List.take_succ_eq_append_getElem h1, h2, List.countP_append, List.countP_singleton]
  congr 1
  by_cases hv : v ≤ x
  · rw [if_pos (decide_eq_true hv), if_pos hv]
  · rw [if_neg (by simpa using hv), if_neg hv]
theorem upto_cnt {x : Int} {l : List Int} {n : Nat} (hs : l.Pairwise (· ≤ ·)) (hn : n ≤ l.length) (h1 : ∀ (j : Nat) (v : Int), j < n → l[j]? = some v → v ≤ x) (h2 : ∀ v, l[n]? = some v → x < v) : cntLe x l = n := by
  unfold cntLe
  rw [← List.take_append_drop n l, List.countP_append, List.countP_eq_length.2, List.countP_eq_zero.2, List.length_take, Nat.min_eq_left hn]
  · omega
  · intro v hv
    obtain ⟨j, hj⟩ := List.mem_iff_getElem?.1 hv
    rw [List.getElem?_drop] at hj
    obtain ⟨z, hz⟩ : ∃ z, l[n]? = some z := ⟨_, List.getElem?_eq_getElem (by have := (List.getElem?_eq_some_iff.1 hj).1; omega)⟩
    have h3 := h2 z hz
    have h4 : z ≤ v := by
      rcases Nat.eq_zero_or_pos j with rfl | hjp
      · rw [Nat.add_zero, hz] at hj
        obtain rfl := Option.some.inj hj
        exact Int.le_refl _
      · obtain ⟨e1, e2⟩ := List.getElem?_eq_some_iff.1 hz
        obtain ⟨e3, e4⟩ := List.getElem?_eq_some_iff.1 hj
        have := List.pairwise_iff_getElem.1 hs n (n + j) e1 e3 (by omega)
        rw [e2, e4] at this
        exact this
    rw [decide_eq_true_eq]
    omega
  · intro v hv
    obtain ⟨j, hj⟩ := List.mem_iff_getElem?.1 hv
    rw [List.getElem?_take] at hj
    split at hj
    · rename_i hlt
      exact decide_eq_true (h1 j v hlt hj)
    · simp at hj
def wtTo (s : Rk) (x : Int) : Nat → Int
  | 0 => cntLe x s.tl
  | i + 1 => match s.lv[i]? with
    | none => wtTo s x i
    | some l => wtTo s x i + cntLe x l * 2 ^ i
theorem wtTo_step {s : Rk} {x : Int} {i : Nat} {l : List Int} (h : s.lv[i]? = some l) : wtTo s x (i + 1) = wtTo s x i + cntLe x l * 2 ^ i := by rw [wtTo, h]
def wt (s : Rk) (x : Int) : Int := wtTo s x s.lv.length
theorem wtTo_bd {s : Rk} {x : Int} (h : wellR s) : ∀ i, i ≤ 20 → 0 ≤ wtTo s x i ∧ wtTo s x i ≤ 64 + 67108864 * i
  | 0, _ => by
    have h1 := well_parts h
    have h2 := cntLe_le x s.tl
    rw [wtTo]
    omega
  | i + 1, hi => by
    have ih := wtTo_bd (x := x) h i (by omega)
    have h1 := well_parts h
    have hp := pow_le (i := i) (by omega)
    rw [wtTo]
    split
    · omega
    · rename_i l hl
      have h2 := cntLe_le x l
      have h3 := (h1.2.2.2.2.2 l (List.mem_of_getElem? hl)).1
      have hm := mul_bnd (c := cntLe x l) (C := 64) (by omega) (by omega) (by omega) hp.2
      omega
def allR (s : Rk) : List Int := s.lv.flatten ++ s.tl
def keptR (s : Rk) : List Int := s.tl ++ s.lv.flatten
theorem kept_perm (s : Rk) : (keptR s).Perm (allR s) := List.perm_append_comm
theorem cntLe_mono {x y : Int} (h : x ≤ y) (l : List Int) : cntLe x l ≤ cntLe y l := by
  unfold cntLe
  refine List.countP_mono_left fun v _ hv => ?_
  rw [decide_eq_true_eq] at hv ⊢
  omega
theorem wtTo_mono {s : Rk} {x y : Int} (h : x ≤ y) : ∀ i, wtTo s x i ≤ wtTo s y i
  | 0 => by
    have := cntLe_mono h s.tl
    rw [wtTo, wtTo]
    omega
  | i + 1 => by
    have ih := wtTo_mono (s := s) h i
    rw [wtTo, wtTo]
    split
    · exact ih
    · rename_i l hl
      have h1 := cntLe_mono h l
      have h2 : (0 : Int) ≤ 2 ^ i := Int.le_of_lt (Int.pow_pos (by decide))
      have h3 := Int.mul_le_mul_of_nonneg_right (show (cntLe x l : Int) ≤ cntLe y l by omega) h2
      omega
theorem cntLe_full {x : Int} {l : List Int} (h : ∀ v ∈ l, v ≤ x) : cntLe x l = l.length := by
  unfold cntLe
  exact List.countP_eq_length.2 fun v hv => decide_eq_true (h v hv)
theorem wt_full {s : Rk} {x : Int} (hw : wellR s) (h : ∀ v ∈ allR s, v ≤ x) : wt s x = s.n := by
  have hp := well_parts hw
  have h1 : ∀ i, wtTo s x i = sumTo s i := by
    intro i
    induction i with
    | zero =>
      rw [wtTo, sumTo, cntLe_full fun v hv => h v (List.mem_append_right _ hv)]
    | succ i ih =>
      rw [wtTo, sumTo]
      split
      · exact ih
      · rename_i l hl
        have hm := List.mem_of_getElem? hl
        rw [ih, cntLe_full fun v hv => h v (List.mem_append_left _ (List.mem_flatten.2 ⟨l, hm, hv⟩))]
        rcases (hp.2.2.2.2.2 l hm).1 with h2 | h2
        · rw [if_neg (by omega), h2]
        · rw [if_pos h2, h2]
          simp
  unfold wt
  rw [h1, hw.2]
/-- The place that is looked for among those in order. -/
def AtR (s : Rk) (r : Int) (ss : List Int) (i : Nat) : Prop := i ≤ ss.length ∧ (∀ (j : Nat) (v : Int), j < i → ss[j]? = some v → wt s v < r) ∧ ∀ (j : Nat) (v : Int), i ≤ j → ss[j]? = some v → r ≤ wt s v
theorem atR_lt {s : Rk} {r : Int} {ss : List Int} {i : Nat} (hw : wellR s) (hp : ss.Perm (allR s)) (hs : ss.Pairwise (· ≤ ·)) (h1 : 1 ≤ r) (h2 : r ≤ s.n) (h : AtR s r ss i) : i < ss.length := by
  rcases Nat.lt_or_ge i ss.length with hlt | hge
  · exact hlt
  · exfalso
    rcases Nat.eq_zero_or_pos ss.length with h0 | hpos
    · have he : allR s = [] := by
        have := hp.length_eq
        rw [h0] at this
        exact List.length_eq_zero_iff.1 this.symm
      have h3 := wt_full (x := 0) hw (fun v hv => by rw [he] at hv; simp at hv)
      have h4 : ∀ k, wtTo s 0 k = 0 := by
        intro k
        have e1 : s.tl = [] := (List.append_eq_nil_iff.1 he).2
        have e2 : ∀ l ∈ s.lv, l = [] := fun l hl => by
          have := (List.append_eq_nil_iff.1 he).1
          rw [List.flatten_eq_nil_iff] at this
          exact this l hl
        induction k with
        | zero => rw [wtTo, e1]; rfl
        | succ k ih =>
          rw [wtTo]
          split
          · exact ih
          · rename_i l hl
            rw [ih, e2 l (List.mem_of_getElem? hl)]
            show (0 : Int) + ((0 : Nat) : Int) * _ = 0
            simp
      unfold wt at h3
      rw [h4] at h3
      omega
    · obtain ⟨z, hz⟩ : ∃ z, ss[ss.length - 1]? = some z := ⟨_, List.getElem?_eq_getElem (by omega)⟩
      have h3 := h.2.1 _ z (by omega) hz
      have h4 : ∀ v ∈ allR s, v ≤ z := by
        intro v hv
        obtain ⟨j, hj⟩ := List.mem_iff_getElem?.1 (hp.mem_iff.2 hv)
        obtain ⟨e1, e2⟩ := List.getElem?_eq_some_iff.1 hj
        obtain ⟨e3, e4⟩ := List.getElem?_eq_some_iff.1 hz
        rcases Nat.lt_or_ge j (ss.length - 1) with h5 | h5
        · have := List.pairwise_iff_getElem.1 hs j (ss.length - 1) e1 e3 h5
          rw [e2, e4] at this
          exact this
        · obtain rfl : j = ss.length - 1 := by omega
          rw [hz] at hj
          obtain rfl := Option.some.inj hj
          exact Int.le_refl _
      have h5 := wt_full hw h4
      omega
def bestS (s : Rk) (r : Int) (p : Bool × Int) (v : Int) : Bool × Int := if r ≤ wt s v ∧ (p.1 = false ∨ v < p.2) then (true, v) else p
def bestK (s : Rk) (r : Int) (j : Nat) : Bool × Int := ((keptR s).take j).foldl (bestS s r) (false, 0)
theorem bestK_succ {s : Rk} {r : Int} {j : Nat} {v : Int} (h : (keptR s)[j]? = some v) : bestK s r (j + 1) = bestS s r (bestK s r j) v := by
  obtain ⟨h1, h2⟩ := List.getElem?_eq_some_iff.1 h
  unfold bestK
  rw [List.take_succ_eq_append_getElem h1, h2, List.foldl_append]
  rfl
theorem best_spec {s : Rk} {r : Int} : ∀ (l : List Int) (p : Bool × Int), (∀ v ∈ l, r ≤ wt s v → (l.foldl (bestS s r) p).1 = true ∧ (l.foldl (bestS s r) p).2 ≤ v) ∧
    (p.1 = true → (l.foldl (bestS s r) p).1 = true ∧ (l.foldl (bestS s r) p).2 ≤ p.2) ∧ ((l.foldl (bestS s r) p).1 = true → (p.1 = true ∧ (l.foldl (bestS s r) p).2 = p.2) ∨ ∃ v ∈ l, r ≤ wt s v ∧ (l.foldl (bestS s r) p).2 = v)
  | [], p => ⟨fun v hv => by simp at hv, fun h => ⟨h, Int.le_refl _⟩, fun h => Or.inl ⟨h, rfl⟩⟩
  | v :: l, p => by
    obtain ⟨h1, h2, h3⟩ := best_spec (s := s) (r := r) l (bestS s r p v)
    rw [List.foldl_cons]
    by_cases hc : r ≤ wt s v ∧ (p.1 = false ∨ v < p.2)
    · have hb : bestS s r p v = (true, v) := if_pos hc
      rw [hb] at h1 h2 h3 ⊢
      have h4 := h2 rfl
      refine ⟨fun u hu hr => ?_, fun hp => ⟨h4.1, ?_⟩, fun hf => ?_⟩
      · rcases List.mem_cons.1 hu with rfl | hu
        · exact h4
        · exact h1 u hu hr
      · rcases hc.2 with hc | hc
        · rw [hp] at hc; simp at hc
        · have := h4.2
          simp only at this
          omega
      · rcases h3 hf with ⟨_, h5⟩ | ⟨u, hu, h5, h6⟩
        · exact Or.inr ⟨v, by simp, hc.1, h5⟩
        · exact Or.inr ⟨u, by simp [hu], h5, h6⟩
    · have hb : bestS s r p v = p := if_neg hc
      rw [hb] at h1 h2 h3 ⊢
      refine ⟨fun u hu hr => ?_, h2, fun hf => ?_⟩
      · rcases List.mem_cons.1 hu with rfl | hu
        · have hp : p.1 = true ∧ p.2 ≤ u := by
            cases hp1 : p.1 with
            | false => exact absurd ⟨hr, Or.inl hp1⟩ hc
            | true =>
              refine ⟨rfl, ?_⟩
              rcases Int.lt_or_le u p.2 with h | h
              · exact absurd ⟨hr, Or.inr h⟩ hc
              · exact h
          have := h2 hp.1
          exact ⟨this.1, by omega⟩
        · exact h1 u hu hr
      · rcases h3 hf with h5 | ⟨u, hu, h5, h6⟩
        · exact Or.inl h5
        · exact Or.inr ⟨u, by simp [hu], h5, h6⟩
theorem best_is {s : Rk} {r : Int} {ss : List Int} {i : Nat} {z : Int} (hp : ss.Perm (allR s)) (hs : ss.Pairwise (· ≤ ·)) (h : AtR s r ss i) (hz : ss[i]? = some z) : bestK s r (keptR s).length = (true, z) := by
  have hk : ss.Perm (keptR s) := hp.trans (kept_perm s).symm
  unfold bestK
  rw [List.take_length]
  obtain ⟨h1, -, h3⟩ := best_spec (s := s) (r := r) (keptR s) (false, 0)
  have hzm : z ∈ keptR s := hk.mem_iff.1 (List.mem_of_getElem? hz)
  obtain ⟨h4, h5⟩ := h1 z hzm (h.2.2 i z (Nat.le_refl _) hz)
  rcases h3 h4 with ⟨h6, _⟩ | ⟨u, hu, h6, h7⟩
  · simp at h6
  · obtain ⟨j, hj⟩ := List.mem_iff_getElem?.1 (hk.mem_iff.2 hu)
    have hij : i ≤ j := by
      rcases Nat.lt_or_ge j i with hlt | hge
      · have := h.2.1 j u hlt hj
        omega
      · exact hge
    have hzu : z ≤ u := by
      obtain ⟨e1, e2⟩ := List.getElem?_eq_some_iff.1 hz
      obtain ⟨e3, e4⟩ := List.getElem?_eq_some_iff.1 hj
      rcases Nat.lt_or_ge i j with hlt | hge
      · have := List.pairwise_iff_getElem.1 hs i j e1 e3 hlt
        rw [e2, e4] at this
        exact this
      · obtain rfl : i = j := by omega
        rw [hz] at hj
        obtain rfl := Option.some.inj hj
        exact Int.le_refl _
    refine Prod.ext h4 ?_
    show _ = z
    omega
end Go.Gh
