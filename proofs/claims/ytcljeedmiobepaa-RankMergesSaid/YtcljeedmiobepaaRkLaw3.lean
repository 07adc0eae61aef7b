/-
  Ranks: two ranks merged: as plain functions.
-/
import Derived.Test.YtcljeedmiobepaaRkLaw2
namespace Go.Gh
set_option linter.unusedVariables false
/-- What the full levels weigh. -/
def fillG : List (List Int) → Nat
  | [] => 0
  | x :: r => (if x.length = 0 then 0 else 1) + 2 * fillG r
theorem fillG_put : ∀ {lv : List (List Int)} {i : Nat} {a l : List Int}, lv[i]? = some a → a.length = 0 → ¬ l.length = 0 → fillG (lv.set i l) = fillG lv + 2 ^ i
  | [], i, a, l, h, _, _ => by simp at h
  | x :: r, 0, a, l, h, h0, hl => by
    obtain rfl : x = a := by simpa using h
    rw [List.set_cons_zero, fillG, fillG, if_neg hl, if_pos h0, Nat.pow_zero]
    omega
  | x :: r, i + 1, a, l, h, h0, hl => by
    rw [List.set_cons_succ, fillG, fillG, fillG_put (a := a) (by simpa using h) h0 hl, Nat.pow_succ]
    omega
theorem fillG_take : ∀ {lv : List (List Int)} {i : Nat} {a : List Int}, lv[i]? = some a → ¬ a.length = 0 → fillG (lv.set i []) + 2 ^ i = fillG lv
  | [], i, a, h, _ => by simp at h
  | x :: r, 0, a, h, h0 => by
    obtain rfl : x = a := by simpa using h
    rw [List.set_cons_zero, fillG, fillG, if_neg h0, if_pos (show ([] : List Int).length = 0 from rfl), Nat.pow_zero]
    omega
  | x :: r, i + 1, a, h, h0 => by
    have ih := fillG_take (lv := r) (i := i) (a := a) (by simpa using h) h0
    rw [List.set_cons_succ, fillG, fillG, Nat.pow_succ]
    omega
theorem fillG_none : ∀ n, fillG (List.replicate n []) = 0
  | 0 => rfl
  | n + 1 => by rw [List.replicate_succ, fillG, fillG_none n]; rfl
theorem fillG_pad : ∀ (lv : List (List Int)) (n : Nat), fillG (lv ++ List.replicate n []) = fillG lv
  | [], n => fillG_none n
  | x :: r, n => by rw [List.cons_append, fillG, fillG, fillG_pad r n]
theorem fillG_lt : ∀ (lv : List (List Int)), fillG lv < 2 ^ lv.length
  | [] => by decide
  | x :: r => by
    have ih := fillG_lt r
    rw [fillG, List.length_cons, Nat.pow_succ]
    split <;> omega
theorem halfS_len (l : List Int) : (halfS l).length = l.length / 2 := by
  have h : ∀ j, j ≤ l.length → (oddTo l j).length = j / 2 := fun j => by
    induction j with
    | zero => intro _; rfl
    | succ j ih =>
      intro h
      have ih := ih (by omega)
      obtain ⟨x, hx⟩ : ∃ x, l[j]? = some x := ⟨_, List.getElem?_eq_getElem (by omega)⟩
      rw [oddTo_step hx]
      split
      · rw [List.length_append, List.length_singleton, ih]; omega
      · rw [ih]; omega
  exact h _ (Nat.le_refl _)
theorem oddTo_sub {l : List Int} : ∀ j, (oddTo l j).Sublist (l.take j)
  | 0 => by rw [List.take_zero]; exact List.Sublist.refl _
  | j + 1 => by
    have ih := oddTo_sub (l := l) j
    rw [oddTo]
    split
    · rename_i h
      rw [List.take_of_length_le (by have := List.getElem?_eq_none_iff.1 h; omega : l.length ≤ j + 1)]
      exact ih.trans (List.take_sublist _ _)
    · rename_i v h
      obtain ⟨h1, h2⟩ := List.getElem?_eq_some_iff.1 h
      rw [List.take_succ_eq_append_getElem h1, h2]
      split
      · exact ih.append (List.Sublist.refl _)
      · exact ih.trans (List.sublist_append_left _ _)
theorem halfS_sort {l : List Int} (h : l.Pairwise (· ≤ ·)) : (halfS l).Pairwise (· ≤ ·) := by
  have := oddTo_sub (l := l) l.length
  rw [List.take_length] at this
  exact h.sublist this
theorem merge_sort (l : List Int) : (l.mergeSort fun x y => decide (x ≤ y)).Pairwise (· ≤ ·) := by
  have := List.pairwise_mergeSort (le := fun (x y : Int) => decide (x ≤ y)) (fun a b c h1 h2 => by simp at *; omega) (fun a b => by simp; omega) l
  exact this.imp (fun h => by simpa using h)
/-- A list as a level holds it. -/
def Lst (a : List Int) : Prop := a.length ≤ 64 ∧ a.Pairwise (· ≤ ·)
theorem lst_half {a l : List Int} (ha : Lst a) (hl : Lst l) : Lst (halfS ((a ++ l).mergeSort fun x y => decide (x ≤ y))) := by
  refine ⟨?_, halfS_sort (merge_sort _)⟩
  rw [halfS_len, List.length_mergeSort, List.length_append]
  have := ha.1
  have := hl.1
  omega
theorem half_some {a l : List Int} (ha : ¬ a.length = 0) (hl : ¬ l.length = 0) : ¬ (halfS ((a ++ l).mergeSort fun x y => decide (x ≤ y))).length = 0 := by
  rw [halfS_len, List.length_mergeSort, List.length_append]
  omega
theorem pad_len (lv : List (List Int)) (n : Nat) (h : lv.length ≤ n) : (pad lv n).length = n := by
  unfold pad
  rw [List.length_append, List.length_replicate]
  omega
/-- Carrying: what fills, how long it gets, what slack it leaves, what its lists are. -/
theorem carryG_all : ∀ (m : Nat) (lv : List (List Int)) (sl : Int) (l : List Int) (lev M : Nat), lv.length - lev ≤ m → ¬ l.length = 0 → Lst l → (∀ a ∈ lv, Lst a) → lev ≤ M → lv.length ≤ M →
    fillG (carryG lv sl l lev).1 = fillG lv + 2 ^ lev ∧ ((carryG lv sl l lev).1.length = lv.length ∨ 2 ^ ((carryG lv sl l lev).1.length - 1) ≤ fillG (carryG lv sl l lev).1) ∧ (∀ a ∈ (carryG lv sl l lev).1, Lst a) ∧ sl ≤ (carryG lv sl l lev).2 ∧ (carryG lv sl l lev).2 + 2 ^ lev ≤ sl + 2 ^ M := by
  intro m
  induction m with
  | zero =>
    intro lv sl l lev M hm hl hll hlv hlM hM
    have hge : lv.length ≤ lev := by omega
    rw [carryG_out hge]
    have hp := pad_len lv (lev + 1) (by omega)
    have hat : (pad lv (lev + 1))[lev]? = some [] := by
      unfold pad
      rw [List.getElem?_append_right hge, List.getElem?_replicate, if_pos (by omega)]
    have hf := fillG_put hat rfl hl
    have hf2 : fillG (pad lv (lev + 1)) = fillG lv := fillG_pad _ _
    rw [hf2] at hf
    refine ⟨hf, Or.inr ?_, fun a ha => ?_, Int.le_refl _, ?_⟩
    · show 2 ^ (((pad lv (lev + 1)).set lev l).length - 1) ≤ _
      rw [hf, List.length_set, hp, Nat.add_sub_cancel]
      omega
    · rcases List.mem_or_eq_of_mem_set ha with h | rfl
      · unfold pad at h
        rcases List.mem_append.1 h with h | h
        · exact hlv a h
        · obtain ⟨-, rfl⟩ := List.mem_replicate.1 h
          exact ⟨Nat.zero_le _, List.Pairwise.nil⟩
      · exact hll
    · have h1 : (2 : Nat) ^ lev ≤ 2 ^ M := Nat.pow_le_pow_right (by decide) hlM
      have h2 : ((2 ^ lev : Nat) : Int) ≤ ((2 ^ M : Nat) : Int) := by exact_mod_cast h1
      push_cast at h2
      show sl + 2 ^ lev ≤ sl + 2 ^ M
      omega
  | succ m ih =>
    intro lv sl l lev M hm hl hll hlv hlM hM
    rcases Nat.lt_or_ge lev lv.length with hlt | hge
    · obtain ⟨a, ha⟩ : ∃ a, lv[lev]? = some a := ⟨_, List.getElem?_eq_getElem hlt⟩
      have hLa := hlv a (List.mem_of_getElem? ha)
      by_cases h0 : a.length = 0
      · rw [carryG_put ha h0]
        refine ⟨fillG_put ha h0 hl, Or.inl (List.length_set ..), fun b hb => ?_, Int.le_refl _, ?_⟩
        · rcases List.mem_or_eq_of_mem_set hb with h | rfl
          · exact hlv b h
          · exact hll
        · have h1 : (2 : Nat) ^ lev ≤ 2 ^ M := Nat.pow_le_pow_right (by decide) hlM
          have h2 : ((2 ^ lev : Nat) : Int) ≤ ((2 ^ M : Nat) : Int) := by exact_mod_cast h1
          push_cast at h2
          show sl + 2 ^ lev ≤ sl + 2 ^ M
          omega
      · rw [carryG_on ha h0]
        have hs : (lv.set lev []).length = lv.length := List.length_set ..
        obtain ⟨i1, i2, i3, i4, i5⟩ := ih (lv.set lev []) (sl + 2 ^ lev) (halfS ((a ++ l).mergeSort fun x y => decide (x ≤ y))) (lev + 1) M (by rw [hs]; omega) (half_some h0 hl) (lst_half hLa hll) (fun b hb => by
          rcases List.mem_or_eq_of_mem_set hb with h | rfl
          · exact hlv b h
          · exact ⟨Nat.zero_le _, List.Pairwise.nil⟩) (by omega) (by rw [hs]; exact hM)
        have hft := fillG_take ha h0
        have h3 : (0 : Int) < 2 ^ lev := Int.pow_pos (by decide)
        rw [hs] at i2
        rw [Int.pow_succ] at i5
        rw [Nat.pow_succ] at i1
        exact ⟨by omega, i2, i3, by omega, by omega⟩
    · exact ih lv sl l lev M (by omega) hl hll hlv hlM hM
/-- A level of the other rank is carried over. -/
def levG (s : Rk) (l : List Int) (i : Nat) : Rk := if l.length = 0 then s else ⟨s.k, s.tl, (carryG s.lv s.sl l i).1, s.n + s.k * 2 ^ i, (carryG s.lv s.sl l i).2⟩
def stepTo (s : Rk) (lv : List (List Int)) : Nat → Rk
  | 0 => s
  | i + 1 => match lv[i]? with
    | none => stepTo s lv i
    | some l => levG (stepTo s lv i) l i
theorem stepTo_step {s : Rk} {lv : List (List Int)} {i : Nat} {l : List Int} (h : lv[i]? = some l) : stepTo s lv (i + 1) = levG (stepTo s lv i) l i := by rw [stepTo, h]
def addTo (s : Rk) (tl : List Int) (j : Nat) : Rk := (tl.take j).foldl addG s
theorem addTo_step {s : Rk} {tl : List Int} {j : Nat} {v : Int} (h : tl[j]? = some v) : addTo s tl (j + 1) = addG (addTo s tl j) v := by
  obtain ⟨h1, h2⟩ := List.getElem?_eq_some_iff.1 h
  unfold addTo
  rw [List.take_succ_eq_append_getElem h1, h2, List.foldl_append]
  rfl
/-- Two ranks of one K. -/
def joinG (a b : Rk) : Rk := addTo (stepTo ⟨a.k, a.tl, a.lv, a.n, a.sl + b.sl⟩ b.lv b.lv.length) b.tl b.tl.length
/-- On the way, behind c steps. -/
structure MI (k : Int) (c : Nat) (s : Rk) : Prop where
  kk : s.k = k
  k2 : 2 ≤ k ∧ k ≤ 64
  fil : fillG s.lv ≤ 1048576 + c * 524288
  len : s.lv.length ≤ 20 ∨ 2 ^ (s.lv.length - 1) ≤ fillG s.lv
  lst : ∀ a ∈ s.lv, Lst a
  tls : s.tl.Pairwise (· ≤ ·)
  tll : (s.tl.length : Int) < k
  nn : 0 ≤ s.n ∧ s.n ≤ 4294967296 + c * 134217728
  sl : 0 ≤ s.sl ∧ s.sl ≤ 2305843009213693952 + c * 134217728
theorem MI.short {k : Int} {c : Nat} {s : Rk} (h : MI k c s) (hc : c ≤ 100) : s.lv.length ≤ 26 := by
  rcases h.len with h1 | h1
  · omega
  · have h2 := h.fil
    rcases Nat.lt_or_ge 26 s.lv.length with h3 | h3
    · have h4 : 2 ^ 26 ≤ 2 ^ (s.lv.length - 1) := Nat.pow_le_pow_right (by decide) (by omega)
      omega
    · exact h3
theorem MI.carry {k : Int} {c i : Nat} {s : Rk} {l : List Int} (h : MI k c s) (hc : c ≤ 100) (hi : i ≤ 19) (hl : ¬ l.length = 0) (hll : Lst l) : MI k (c + 1) ⟨s.k, s.tl, (carryG s.lv s.sl l i).1, s.n + s.k * 2 ^ i, (carryG s.lv s.sl l i).2⟩ := by
  have hs := h.short hc
  obtain ⟨i1, i2, i3, i4, i5⟩ := carryG_all s.lv.length s.lv s.sl l i 26 (by omega) hl hll h.lst (by omega) hs
  have hp : (2 : Nat) ^ i ≤ 2 ^ 19 := Nat.pow_le_pow_right (by decide) hi
  have hp0 : 1 ≤ (2 : Nat) ^ i := Nat.one_le_two_pow
  have hq : ((2 ^ i : Nat) : Int) = (2 : Int) ^ i := by push_cast; rfl
  have hb := mul_bnd (c := s.k) (p := (2 : Int) ^ i) (C := 64) (P := 524288) (by rw [h.kk]; have := h.k2; omega) (by rw [h.kk]; exact h.k2.2) (by omega) (by omega)
  have hf := h.fil
  have hn := h.nn
  have hsl := h.sl
  refine ⟨h.kk, h.k2, by show fillG (carryG s.lv s.sl l i).1 ≤ _; omega, ?_, i3, h.tls, h.tll, ⟨by show 0 ≤ s.n + s.k * 2 ^ i; omega, by show s.n + s.k * 2 ^ i ≤ _; omega⟩, ⟨by show 0 ≤ (carryG s.lv s.sl l i).2; omega, by show (carryG s.lv s.sl l i).2 ≤ _; omega⟩⟩
  show (carryG s.lv s.sl l i).1.length ≤ 20 ∨ 2 ^ ((carryG s.lv s.sl l i).1.length - 1) ≤ fillG (carryG s.lv s.sl l i).1
  rcases i2 with h1 | h1
  · rw [h1]
    rcases h.len with h2 | h2
    · exact Or.inl h2
    · exact Or.inr (by omega)
  · exact Or.inr h1
theorem MI.more {k : Int} {c : Nat} {s : Rk} (h : MI k c s) : MI k (c + 1) s := by
  obtain ⟨h1, h2, h3, h4, h5, h6, h7, h8, h9⟩ := h
  have e3 : fillG s.lv ≤ 1048576 + (c + 1) * 524288 := by
    exact Nat.le_trans h3 (Nat.add_le_add_left (Nat.mul_le_mul_right _ (Nat.le_succ c)) _)
  have e8 : 0 ≤ s.n ∧ s.n ≤ 4294967296 + ((c + 1 : Nat) : Int) * 134217728 := by
    clear h4 h3 e3
    omega
  have e9 : 0 ≤ s.sl ∧ s.sl ≤ 2305843009213693952 + ((c + 1 : Nat) : Int) * 134217728 := by
    clear h4 h3 e3 e8
    omega
  exact ⟨h1, h2, e3, h4, h5, h6, h7, e8, e9⟩
theorem MI.step {k : Int} {c i : Nat} {s : Rk} {l : List Int} (h : MI k c s) (hc : c ≤ 100) (hi : i ≤ 19) (hll : Lst l) : MI k (c + 1) (levG s l i) := by
  unfold levG
  split
  · exact h.more
  · rename_i hl
    exact h.carry hc hi hl hll
theorem MI.add {k : Int} {c : Nat} {s : Rk} (h : MI k c s) (hc : c ≤ 100) (v : Int) : MI k (c + 1) (addG s v) := by
  have hlen := insB_len s.tl v
  have hsrt := insB_sort (v := v) h.tls
  have hk := h.kk
  have hk2 := h.k2
  have htl := h.tll
  have hn := h.nn
  unfold addG
  split
  · rename_i he
    have h0 : MI k c ⟨s.k, [], s.lv, s.n, s.sl⟩ := ⟨h.kk, h.k2, h.fil, h.len, h.lst, List.Pairwise.nil, by show ((0 : Nat) : Int) < k; omega, h.nn, h.sl⟩
    have h1 := h0.carry (i := 0) (l := insB s.tl v) hc (by omega) (by omega) ⟨by omega, hsrt⟩
    exact ⟨h1.kk, h1.k2, h1.fil, h1.len, h1.lst, h1.tls, h1.tll, ⟨by show 0 ≤ s.n + 1; omega, by show s.n + 1 ≤ _; omega⟩, h1.sl⟩
  · rename_i he
    have h1 := h.more
    exact ⟨h1.kk, h1.k2, h1.fil, h1.len, h1.lst, hsrt, by show ((insB s.tl v).length : Int) < k; omega, ⟨by show 0 ≤ s.n + 1; omega, by show s.n + 1 ≤ _; omega⟩, h1.sl⟩
theorem mi_start {a b : Rk} (ha : wellR a) (hb : wellR b) : MI a.k 0 ⟨a.k, a.tl, a.lv, a.n, a.sl + b.sl⟩ := by
  have hwa := well_parts ha
  have hha := headR_ok.1 (okTo_head ha.1)
  have hhb := headR_ok.1 (okTo_head hb.1)
  have hsum := sumTo_bd (s := a) (by omega) (by omega) (by omega) a.lv.length (by omega)
  rw [ha.2] at hsum
  have hf := fillG_lt a.lv
  have hp : (2 : Nat) ^ a.lv.length ≤ 2 ^ 20 := Nat.pow_le_pow_right (by decide) hha.2.2.2.1
  exact ⟨rfl, ⟨hha.1, hha.2.1⟩, by show fillG a.lv ≤ _; omega, Or.inl hha.2.2.2.1, fun x hx => ⟨by have := (hwa.2.2.2.2.2 x hx).1; omega, (hwa.2.2.2.2.2 x hx).2⟩, hwa.2.2.2.2.1, hha.2.2.1, ⟨hsum.1, by show a.n ≤ _; omega⟩, ⟨by show 0 ≤ a.sl + b.sl; omega, by show a.sl + b.sl ≤ _; omega⟩⟩
theorem lst_all {b : Rk} (hb : wellR b) : (∀ x ∈ b.lv, Lst x) ∧ b.lv.length ≤ 20 ∧ (b.tl.length : Int) ≤ 63 := by
  have hwb := well_parts hb
  have hhb := headR_ok.1 (okTo_head hb.1)
  exact ⟨fun x hx => ⟨by have := (hwb.2.2.2.2.2 x hx).1; omega, (hwb.2.2.2.2.2 x hx).2⟩, hhb.2.2.2.1, by omega⟩
theorem mi_steps {k : Int} {s : Rk} {lv : List (List Int)} (h : MI k 0 s) (hl : ∀ x ∈ lv, Lst x) (h20 : lv.length ≤ 20) : ∀ i, i ≤ lv.length → MI k i (stepTo s lv i)
  | 0, _ => h
  | i + 1, hi => by
    obtain ⟨l, hx⟩ : ∃ l, lv[i]? = some l := ⟨_, List.getElem?_eq_getElem (by omega)⟩
    rw [stepTo_step hx]
    exact (mi_steps h hl h20 i (by omega)).step (by omega) (by omega) (hl l (List.mem_of_getElem? hx))
theorem mi_adds {k : Int} {s : Rk} {tl : List Int} {c : Nat} (h : MI k c s) (hc : c ≤ 20) (h63 : tl.length ≤ 63) : ∀ j, j ≤ tl.length → MI k (c + j) (addTo s tl j)
  | 0, _ => h
  | j + 1, hj => by
    obtain ⟨v, hx⟩ : ∃ v, tl[j]? = some v := ⟨_, List.getElem?_eq_getElem (by omega)⟩
    rw [addTo_step hx]
    exact (mi_adds h hc h63 j (by omega)).add (by omega) v
open Classical in
noncomputable def mergeR (a b : Rk) : Rk × Int := if rankF a = 0 then if rankF b = 0 then if a.k = b.k then boundG (joinG a b) else (rk0, 1) else (rk0, rankF b) else (rk0, rankF a)
end Go.Gh
