/-
  Tallies of what is heavy, two made one: as plain functions.
-/
import Derived.Test.YtcljeedmiobepaaHvLaw2
namespace Go.Gh
set_option linter.unusedVariables false
theorem ris_tail {x : Ct} {r : List Ct} (h : Ris (x :: r)) : Ris r := ⟨fun y hy => h.1 y (List.mem_cons_of_mem _ hy), (List.pairwise_cons.1 h.2).2⟩
theorem exists_at {key : ByteArray} : ∀ {l : List Ct}, Ris l → ∃ i, AtH l key i
  | [], _ => ⟨0, Nat.le_refl _, fun j x hj => absurd hj (Nat.not_lt_zero _), fun j x _ hx => by simp at hx⟩
  | x :: r, h => by
    by_cases hlt : kH x.ky < kH key
    · obtain ⟨i, h1, h2, h3⟩ := exists_at (key := key) (ris_tail h)
      refine ⟨i + 1, by rw [List.length_cons]; omega, fun j y hj hy => ?_, fun j y hj hy => ?_⟩
      · cases j with
        | zero =>
          obtain rfl : x = y := by simpa using hy
          exact hlt
        | succ j => exact h2 j y (by omega) (by simpa using hy)
      · cases j with
        | zero => omega
        | succ j => exact h3 j y (by omega) (by simpa using hy)
    · refine ⟨0, by omega, fun j y hj => absurd hj (Nat.not_lt_zero _), fun j y _ hy => ?_⟩
      rcases Nat.eq_zero_or_pos j with rfl | hjp
      · obtain rfl : x = y := by simpa using hy
        omega
      · have := ris_lt h hjp (show (x :: r)[0]? = some x from rfl) hy
        omega
theorem sumN_set : ∀ {l : List Ct} {i : Nat} {x y : Ct}, l[i]? = some x → sumN (l.set i y) = sumN l - x.n + y.n
  | [], i, x, y, h => by simp at h
  | a :: l, 0, x, y, h => by
    obtain rfl : a = x := by simpa using h
    rw [List.set_cons_zero, sumN, sumN]
    omega
  | a :: l, i + 1, x, y, h => by
    rw [List.set_cons_succ, sumN, sumN, sumN_set (l := l) (by simpa using h)]
    omega
theorem drop_gt {l : List Ct} {key : ByteArray} {i : Nat} (hr : Ris l) (h : AtH l key i) (hh : hitB l key i = false) : ∀ y ∈ l.drop i, kH key < kH y.ky := by
  intro y hy
  obtain ⟨j, hj⟩ := List.mem_iff_getElem?.1 hy
  rw [List.getElem?_drop] at hj
  have h0 := h.2.2 (i + j) y (by omega) hj
  rcases Nat.eq_zero_or_pos j with rfl | hjp
  · rw [Nat.add_zero] at hj
    rw [hitB_some hj] at hh
    have := of_decide_eq_false hh
    omega
  · obtain ⟨z, hz⟩ : ∃ z, l[i]? = some z := ⟨_, List.getElem?_eq_getElem (by have := (List.getElem?_eq_some_iff.1 hj).1; omega)⟩
    have h1 := ris_lt hr (show i < i + j by omega) hz hj
    have h2 := h.2.2 i z (Nat.le_refl _) hz
    omega
theorem cnted_ris {l : List Ct} {key : ByteArray} {n : Int} (hr : Ris l) (hk : key.size ≤ 40) (hn : 0 < n) : Ris (cnted key n l false) ∧ sumN (cnted key n l false) = sumN l + n ∧ (cnted key n l false).length ≤ l.length + 1 := by
  obtain ⟨i, hat⟩ := exists_at (key := key) hr
  cases hh : hitB l key i with
  | true =>
    have hlt : i < l.length := by
      rcases Nat.lt_or_ge i l.length with h | h
      · exact h
      · rw [hitB_none h] at hh; simp at hh
    obtain ⟨x, hx⟩ : ∃ x, l[i]? = some x := ⟨_, List.getElem?_eq_getElem hlt⟩
    have he := hh
    rw [hitB_some hx] at he
    have hxi := (List.getElem?_eq_some_iff.1 hx).2
    have hxm := hr.1 x (List.mem_of_getElem? hx)
    rw [cnted_at hr hat hx (of_decide_eq_true he)]
    refine ⟨⟨fun y hy => ?_, ?_⟩, ?_, by rw [List.length_set]; omega⟩
    · rcases List.mem_or_eq_of_mem_set hy with h | rfl
      · exact hr.1 y h
      · exact ⟨hxm.1, show 0 < x.n + n by omega⟩
    · refine List.pairwise_iff_getElem.2 fun a b ha hb hab => ?_
      rw [List.length_set] at ha hb
      have h0 := List.pairwise_iff_getElem.1 hr.2 a b ha hb hab
      rw [List.getElem_set, List.getElem_set]
      split
      · rename_i h1
        subst h1
        rw [if_neg (by omega)]
        rw [hxi] at h0
        exact h0
      · split
        · rename_i h1
          subst h1
          rw [hxi] at h0
          exact h0
        · exact h0
    · rw [sumN_set hx]
      show sumN l - x.n + (x.n + n) = _
      omega
  | false =>
    rw [cnted_ins hr hat hh]
    have hg := drop_gt hr hat hh
    have hl := take_lt hat
    have hsum : sumN l = sumN (l.take i) + sumN (l.drop i) := by rw [← sumN_append, List.take_append_drop]
    refine ⟨⟨fun y hy => ?_, ?_⟩, ?_, ?_⟩
    · rcases List.mem_append.1 hy with h | h
      · exact hr.1 y (List.mem_of_mem_take h)
      · rcases List.mem_cons.1 h with rfl | h
        · exact ⟨hk, hn⟩
        · exact hr.1 y (List.mem_of_mem_drop h)
    · refine List.pairwise_append.2 ⟨hr.2.sublist (List.take_sublist _ _), List.pairwise_cons.2 ⟨hg, hr.2.sublist (List.drop_sublist _ _)⟩, fun a ha b hb => ?_⟩
      have h1 := hl a ha
      rcases List.mem_cons.1 hb with rfl | hb
      · exact h1
      · have := hg b hb
        omega
    · rw [sumN_append, sumN, hsum]
      show sumN (l.take i) + (n + sumN (l.drop i)) = _
      omega
    · rw [List.length_append, List.length_cons, List.length_take, List.length_drop]
      omega
/-- All of a list counted into another. -/
def foldC : List Ct → List Ct → List Ct
  | L, [] => L
  | L, c :: r => foldC (cnted c.ky c.n L false) r
theorem foldC_snoc : ∀ {L : List Ct} {r : List Ct} {c : Ct}, foldC L (r ++ [c]) = cnted c.ky c.n (foldC L r) false
  | L, [], c => rfl
  | L, x :: r, c => by rw [List.cons_append, foldC, foldC, foldC_snoc]
theorem foldC_take {L b : List Ct} {k : Nat} {x : Ct} (h : b[k]? = some x) : foldC L (b.take (k + 1)) = cnted x.ky x.n (foldC L (b.take k)) false := by
  obtain ⟨h1, h2⟩ := List.getElem?_eq_some_iff.1 h
  rw [List.take_succ_eq_append_getElem h1, h2, foldC_snoc]
theorem foldC_ris : ∀ {r L : List Ct}, Ris L → (∀ x ∈ r, x.ky.size ≤ 40 ∧ 0 < x.n) → Ris (foldC L r) ∧ sumN (foldC L r) = sumN L + sumN r ∧ (foldC L r).length ≤ L.length + r.length
  | [], L, h, _ => ⟨h, by rw [foldC, sumN]; omega, by rw [foldC, List.length_nil]; omega⟩
  | c :: r, L, h, hr => by
    have hc := hr c (by simp)
    obtain ⟨h1, h2, h3⟩ := cnted_ris h hc.1 hc.2
    obtain ⟨h4, h5, h6⟩ := foldC_ris (r := r) h1 (fun x hx => hr x (by simp [hx]))
    refine ⟨h4, ?_, ?_⟩
    · rw [foldC, h5, h2, sumN]
      omega
    · rw [foldC, List.length_cons]
      omega
theorem sumN_nn : ∀ {L : List Ct}, (∀ y ∈ L, 0 < y.n) → 0 ≤ sumN L
  | [], _ => Int.le_refl _
  | x :: L, h => by
    have h1 := sumN_nn (L := L) (fun y hy => h y (by simp [hy]))
    have h2 := h x (by simp)
    rw [sumN]
    omega
theorem sumN_mem : ∀ {L : List Ct} {x : Ct}, (∀ y ∈ L, 0 < y.n) → x ∈ L → x.n ≤ sumN L
  | [], x, _, hx => by simp at hx
  | y :: L, x, h, hx => by
    have h1 := sumN_nn (L := L) (fun y hy => h y (by simp [hy]))
    have h2 := h y (by simp)
    rw [sumN]
    rcases List.mem_cons.1 hx with rfl | hx
    · omega
    · have := sumN_mem (L := L) (fun y hy => h y (by simp [hy])) hx
      omega
theorem well_sum {s : Hv} (h : wellH s) : sumN s.l ≤ 1000000000 := by
  have h1 := headH_ok.1 h.1
  have h2 := mul_nn (K := s.k) (off := s.off) h1.1 h1.2.2.2.2.2.1
  have := h.2.2
  omega
/-- What is known of the list on the way. -/
theorem fold_on {a b : Hv} (ha : wellH a) (hb : wellH b) {k : Nat} (hk : k ≤ b.l.length) : Ris (foldC a.l (b.l.take k)) ∧ (foldC a.l (b.l.take k)).length ≤ a.l.length + k ∧ ∀ x ∈ foldC a.l (b.l.take k), 0 < x.n ∧ x.n ≤ 2000000000 := by
  have hra := ris_of ha.2.1
  have hrb := ris_of hb.2.1
  obtain ⟨h1, h2, h3⟩ := foldC_ris (r := b.l.take k) hra (fun x hx => hrb.1 x (List.mem_of_mem_take hx))
  rw [List.length_take, Nat.min_eq_left hk] at h3
  refine ⟨h1, h3, fun x hx => ?_⟩
  have h4 := sumN_mem (fun y hy => (h1.1 y hy).2) hx
  have h5 : sumN b.l = sumN (b.l.take k) + sumN (b.l.drop k) := by rw [← sumN_append, List.take_append_drop]
  have h6 := sumN_nn (L := b.l.drop k) (fun y hy => (hrb.1 y (List.mem_of_mem_drop hy)).2)
  have h7 := well_sum ha
  have h8 := well_sum hb
  exact ⟨(h1.1 x hx).2, by omega⟩
/-- How many are counted no less often. -/
def many (L : List Ct) (v : Int) : Nat := L.countP fun d => decide (v ≤ d.n)
def mostS (K : Int) (L : List Ct) (m : Int) (c : Ct) : Int := if K + 1 ≤ (many L c.n : Int) ∧ m < c.n then c.n else m
def mostK (K : Int) (L : List Ct) (j : Nat) : Int := (L.take j).foldl (mostS K L) 0
theorem mostK_succ {K : Int} {L : List Ct} {j : Nat} {c : Ct} (h : L[j]? = some c) : mostK K L (j + 1) = mostS K L (mostK K L j) c := by
  obtain ⟨h1, h2⟩ := List.getElem?_eq_some_iff.1 h
  unfold mostK
  rw [List.take_succ_eq_append_getElem h1, h2, List.foldl_append]
  rfl
theorem manyTake {L : List Ct} {j : Nat} {v : Int} {c : Ct} (h : L[j]? = some c) : many (L.take (j + 1)) v = many (L.take j) v + if v ≤ c.n then 1 else 0 := by
  obtain ⟨h1, h2⟩ := List.getElem?_eq_some_iff.1 h
  unfold many
  rw [List.take_succ_eq_append_getElem h1, h2, List.countP_append, List.countP_singleton]
  congr 1
  by_cases hv : v ≤ c.n
  · rw [if_pos (decide_eq_true hv), if_pos hv]
  · rw [if_neg (by simpa using hv), if_neg hv]
theorem most_spec {K : Int} {L : List Ct} : ∀ (r : List Ct) (m0 : Int), m0 ≤ r.foldl (mostS K L) m0 ∧ (r.foldl (mostS K L) m0 = m0 ∨ ∃ c ∈ r, c.n = r.foldl (mostS K L) m0 ∧ K + 1 ≤ (many L c.n : Int)) ∧ ∀ c ∈ r, K + 1 ≤ (many L c.n : Int) → c.n ≤ r.foldl (mostS K L) m0
  | [], m0 => ⟨Int.le_refl _, Or.inl rfl, fun c hc => by simp at hc⟩
  | c :: r, m0 => by
    obtain ⟨h1, h2, h3⟩ := most_spec (K := K) (L := L) r (mostS K L m0 c)
    rw [List.foldl_cons]
    have h4 : m0 ≤ mostS K L m0 c := by
      unfold mostS
      split
      · rename_i h; omega
      · omega
    refine ⟨by omega, ?_, fun d hd hm => ?_⟩
    · rcases h2 with h2 | ⟨d, hd, h5, h6⟩
      · by_cases hc : K + 1 ≤ (many L c.n : Int) ∧ m0 < c.n
        · refine Or.inr ⟨c, by simp, ?_, hc.1⟩
          rw [h2]
          unfold mostS
          rw [if_pos hc]
        · refine Or.inl ?_
          rw [h2]
          unfold mostS
          rw [if_neg hc]
      · exact Or.inr ⟨d, by simp [hd], h5, h6⟩
    · rcases List.mem_cons.1 hd with rfl | hd
      · have : d.n ≤ mostS K L m0 d := by
          unfold mostS
          split
          · omega
          · rename_i h; omega
        omega
      · exact h3 d hd hm
def leI (x y : Int) : Bool := decide (x ≤ y)
theorem many_sorted {L : List Ct} {v : Int} {ss : List Int} (hp : ss.Perm (L.map (·.n))) : many L v = ss.countP fun z => decide (v ≤ z) := by
  rw [hp.countP_eq, List.countP_map]
  rfl
theorem most_sorted {L : List Ct} {K : Nat} {ss : List Int} (hp : ss.Perm (L.map (·.n))) (hs : ss.Pairwise (· ≤ ·)) (hK : K < L.length) (hpos : ∀ x ∈ L, 0 < x.n) {z : Int} (hz : ss[L.length - 1 - K]? = some z) : mostK K L L.length = z := by
  have hlen : ss.length = L.length := by rw [hp.length_eq, List.length_map]
  have hKl : L.length - (L.length - 1 - K) = K + 1 := by omega
  obtain ⟨hi, hzi⟩ := List.getElem?_eq_some_iff.1 hz
  obtain ⟨m, hm⟩ : ∃ m, mostK K L L.length = m := ⟨_, rfl⟩
  have hspec := most_spec (K := (K : Int)) (L := L) L 0
  have hm2 : L.foldl (mostS (K : Int) L) 0 = m := by rw [← hm]; unfold mostK; rw [List.take_length]
  rw [hm2] at hspec
  obtain ⟨h1, h2, h3⟩ := hspec
  have hzm : z ∈ L.map (·.n) := hp.mem_iff.1 (List.mem_of_getElem? hz)
  obtain ⟨c, hc, hcz⟩ := List.mem_map.1 hzm
  have hcz : c.n = z := hcz
  have hz0 := hpos c hc
  have hpw := List.pairwise_iff_getElem.1 hs
  have hdrop : (ss.drop (L.length - 1 - K)).countP (fun y => decide (z ≤ y)) = K + 1 := by
    rw [List.countP_eq_length.2, List.length_drop, hlen]
    · exact hKl
    · intro y hy
      obtain ⟨j, hj⟩ := List.mem_iff_getElem?.1 hy
      rw [List.getElem?_drop] at hj
      obtain ⟨hj1, hj2⟩ := List.getElem?_eq_some_iff.1 hj
      refine decide_eq_true ?_
      rcases Nat.eq_zero_or_pos j with rfl | hjp
      · have : ss[L.length - 1 - K + 0] = ss[L.length - 1 - K] := rfl
        rw [← hj2, ← hzi]
        exact Int.le_refl _
      · have := hpw (L.length - 1 - K) (L.length - 1 - K + j) hi hj1 (by omega)
        rw [hzi, hj2] at this
        exact this
  have hmany : K + 1 ≤ (many L z : Int) := by
    rw [many_sorted hp, ← List.take_append_drop (L.length - 1 - K) ss, List.countP_append, hdrop]
    omega
  have hle : z ≤ m := by
    have := h3 c hc (by rw [hcz]; exact hmany)
    omega
  have hge : ∀ d ∈ L, (K : Int) + 1 ≤ (many L d.n : Int) → d.n ≤ z := by
    intro d hd hmd
    rcases Int.lt_or_le z d.n with hlt | hge
    · exfalso
      rw [many_sorted hp, ← List.take_append_drop (L.length - 1 - K + 1) ss, List.countP_append] at hmd
      have e1 : (ss.take (L.length - 1 - K + 1)).countP (fun y => decide (d.n ≤ y)) = 0 := by
        refine List.countP_eq_zero.2 fun y hy => ?_
        obtain ⟨j, hj⟩ := List.mem_iff_getElem?.1 hy
        rw [List.getElem?_take] at hj
        split at hj
        · rename_i hjl
          obtain ⟨hj1, hj2⟩ := List.getElem?_eq_some_iff.1 hj
          have : y ≤ z := by
            rcases Nat.lt_or_ge j (L.length - 1 - K) with h | h
            · have := hpw j (L.length - 1 - K) hj1 hi h
              rw [hzi, hj2] at this
              exact this
            · obtain rfl : j = L.length - 1 - K := by omega
              rw [← hj2, ← hzi]
              exact Int.le_refl _
          rw [decide_eq_true_eq]
          omega
        · simp at hj
      have e2 := List.countP_le_length (p := fun y => decide (d.n ≤ y)) (l := ss.drop (L.length - 1 - K + 1))
      rw [List.length_drop, hlen] at e2
      omega
    · exact hge
  rw [hm]
  rcases h2 with h2 | ⟨d, hd, h5, h6⟩
  · omega
  · have := hge d hd h6
    omega
/-- Two tallies made one. -/
def mergedF (a b : Hv) : Hv :=
  if ((foldC a.l b.l).length : Int) ≤ a.k then ⟨a.k, foldC a.l b.l, a.n + b.n, a.off + b.off⟩
  else ⟨a.k, lessF (mostK a.k (foldC a.l b.l) (foldC a.l b.l).length) (foldC a.l b.l), a.n + b.n, a.off + b.off + mostK a.k (foldC a.l b.l) (foldC a.l b.l).length⟩
theorem most_bd {K : Int} {L : List Ct} (h : ∀ x ∈ L, 0 < x.n ∧ x.n ≤ 2000000000) (j : Nat) : 0 ≤ mostK K L j ∧ mostK K L j ≤ 2000000000 := by
  unfold mostK
  obtain ⟨h1, h2, _⟩ := most_spec (K := K) (L := L) (L.take j) 0
  refine ⟨h1, ?_⟩
  rcases h2 with h2 | ⟨c, hc, h3, _⟩
  · rw [h2]; decide
  · rw [← h3]; exact (h c (List.mem_of_mem_take hc)).2
end Go.Gh
