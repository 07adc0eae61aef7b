/-
  Ranks: the walk of carry.
-/
import Derived.Test.YtcljeedmiobepaaRk9
import Derived.Deep.RegionLaw
import Derived.BigRegion
namespace Go.Proofs.Ytcljeedmiobepaa.Rk
open Go.RowKit Go.Gh
set_option linter.unusedVariables false
/-- What a step may write: the box, the levels' row, and what it makes. -/
structure Fp (w w' : World) (bx : Nat) (u u' : Value) : Prop where
  size : w.heap.size ≤ w'.heap.size
  keep : ∀ x, x < w.heap.size → x ≠ bx → u.ownBlock ≠ some x → w'.heap[x]? = w.heap[x]?
  lies : ∀ b, u'.ownBlock = some b → u.ownBlock = some b ∨ w.heap.size ≤ b
theorem Fp.refl (w : World) (bx : Nat) (u : Value) : Fp w w bx u u := ⟨Nat.le_refl _, fun x _ _ _ => rfl, fun b h => Or.inl h⟩
theorem Fp.below {w w1 w2 : World} {bx : Nat} {u u' : Value} (h : Fp w w1 bx u u') (hb : Below w1.heap.size w1 w2) : Fp w w2 bx u u' :=
  ⟨Nat.le_trans h.size hb.size, fun x h1 h2 h3 => (hb.block x (by have := h.size; omega)).trans (h.keep x h1 h2 h3), h.lies⟩
theorem Fp.cell {w w1 : World} {bx i : Nat} {u u' x : Value} (h : Fp w w1 bx u u') : Fp w (w1.setCell ⟨bx, i, none⟩ x) bx u u' :=
  ⟨by simpa using h.size, fun y h1 h2 h3 => by
    rw [Below.heap_setCell w1 ⟨bx, i, none⟩ x y (fun e => h2 e)]
    exact h.keep y h1 h2 h3, h.lies⟩
theorem Fp.row {w w1 : World} {bx g i : Nat} {u u' x : Value} (h : Fp w w1 bx u u') (hg : u'.ownBlock = some g) : Fp w (w1.setCell ⟨g, i, none⟩ x) bx u u' :=
  ⟨by simpa using h.size, fun y h1 h2 h3 => by
    rw [Below.heap_setCell w1 ⟨g, i, none⟩ x y (fun e => by
      dsimp only at e
      rcases h.lies g hg with h4 | h4
      · exact h3 (by rw [h4, e])
      · omega)]
    exact h.keep y h1 h2 h3, h.lies⟩
theorem Fp.grown {w w1 w2 : World} {bx g : Nat} {u u' u2 : Value} (h : Fp w w1 bx u u') (hg : w1.grownBy w2 u'.ownBlock) (h2 : u2.ownBlock = some g) (hat : u'.ownBlock = some g ∨ w1.heap.size ≤ g) : Fp w w2 bx u u2 :=
  ⟨Nat.le_trans h.size hg.size, fun x e1 e2 e3 => (hg.block x (by have := h.size; omega) (fun e => by
      rcases h.lies x e.symm with h4 | h4
      · exact e3 h4
      · omega)).trans (h.keep x e1 e2 e3), fun b hb => by
    rw [h2] at hb
    obtain rfl : g = b := by simpa using hb
    rcases hat with h3 | h3
    · exact h.lies g h3
    · exact Or.inr (by have := h.size; omega)⟩
/-- On the way. -/
structure CAt (w : World) (B bx : Nat) (K N : Int) (tl : List Int) (t u0 : Value) (T : List (List Int) × Int) (L : Nat) (S : Int) (lv : List (List Int)) (sl : Int) (l : List Int) (lev : Nat) (lval u : Value) (wr : World) : Prop where
  box : wr.heap[bx]? = some (.cells #[.int .i64 K, t, u, .int .i64 N, .int .i64 sl] 141 (0, 0))
  own : OwnRk B wr ⟨K, tl, lv, N, sl⟩ t u
  lrow : wr.ownsRow B 2 1 lval l.length (l.map (Value.int .i64))
  lap : lval.ownBlock = none ∨ lval.ownBlock ≠ t.ownBlock
  tgt : carryG lv sl l lev = T
  fp : Fp w wr bx u0 u
  bel : Below B w wr
  low : B ≤ bx ∧ B ≤ wr.heap.size
  lens : (∀ a ∈ lv, a.length ≤ 64) ∧ l.length ≤ 64
  lvl : lv.length = L
  slk : 0 ≤ sl ∧ sl ≤ S + 2 ^ lev
theorem half_len (l : List Int) : ∀ j, j ≤ l.length → (oddTo l j).length = j / 2
  | 0, _ => rfl
  | j + 1, h => by
    have ih := half_len l j (by omega)
    obtain ⟨x, hx⟩ : ∃ x, l[j]? = some x := ⟨_, List.getElem?_eq_getElem (by omega)⟩
    rw [oddTo_step hx]
    split
    · rw [List.length_append, List.length_singleton, ih]; omega
    · rw [ih]; omega
theorem CAt.below {w : World} {B bx L lev : Nat} {K N S sl : Int} {tl l : List Int} {t u0 lval u : Value} {T : List (List Int) × Int} {lv : List (List Int)} {wr wx : World} (h : CAt w B bx K N tl t u0 T L S lv sl l lev lval u wr) (hb : Below wr.heap.size wr wx) : CAt w B bx K N tl t u0 T L S lv sl l lev lval u wx :=
  ⟨(hb.block _ (Array.getElem?_eq_some_iff.1 h.box).1).trans h.box, h.own.below hb, own_below h.lrow hb, h.lap, h.tgt, h.fp.below hb, h.bel.trans (hb.mono h.low.2), ⟨h.low.1, Nat.le_trans h.low.2 hb.size⟩, h.lens, h.lvl, h.slk⟩
/-- A level is read. -/
theorem CAt.level {w : World} {B bx L lev : Nat} {K N S sl : Int} {tl l : List Int} {t u0 lval u : Value} {T : List (List Int) × Int} {lv : List (List Int)} {wr : World} (h : CAt w B bx K N tl t u0 T L S lv sl l lev lval u wr) {i : Nat} {a : List Int} (ha : lv[i]? = some a) :
    ∃ g cap ta, u = .slice (some ⟨g, 0, none⟩) L cap ∧ wr.cell? ⟨g, i, none⟩ = some ta ∧ wr.frozen? ⟨g, i, none⟩ = false ∧ wr.ownsRow B 2 1 ta a.length (a.map (Value.int .i64)) := by
  obtain ⟨P, h1, h2, h3, h4⟩ := h.own.2
  have hi : i < L := by have := (List.getElem?_eq_some_iff.1 ha).1; have := h.lvl; omega
  rw [show (⟨K, tl, lv, N, sl⟩ : Rk).lv.length = L from h.lvl] at h4
  obtain ⟨g, cap, rfl, -, -, -, -, -⟩ := own_some h4 (by omega)
  obtain ⟨cs, hp⟩ := pair_at h1 ha
  obtain ⟨ta, e1, e2, -⟩ := h3 _ (List.mem_of_getElem? hp)
  obtain ⟨hc, hf⟩ := own_el h4 h2 hp hi
  have c0 := hc 0 ta (by rw [e1]; rfl)
  have f0 := hf 0
  rw [Nat.mul_one, Nat.add_zero] at c0 f0
  exact ⟨g, cap, ta, rfl, c0, f0, e2⟩
theorem pc_setG {α : Type} {k : Nat} : ∀ {P : List (α × List Value)} {i j : Nat} {a a' : α} {cs : List Value} {u : Value}, PK k P → P[i]? = some (a, cs) → j < k → (pc P).set (i * k + j) u = pc (P.set i (a', cs.set j u))
  | [], i, j, a, a', cs, u, _, h, _ => by simp at h
  | q :: P, 0, j, a, a', cs, u, h, hi, hj => by
    have hq : q = (a, cs) := by simpa using hi
    subst hq
    have hl := h (a, cs) (by simp)
    rw [pc_cons, Nat.zero_mul, Nat.zero_add, List.set_append_left _ _ (by rw [hl]; exact hj), List.set_cons_zero, pc_cons]
  | q :: P, i + 1, j, a, a', cs, u, h, hi, hj => by
    have hq := h q (by simp)
    rw [pc_cons, Nat.succ_mul, List.set_append_right _ _ (by rw [hq]; omega), hq, show i * k + k + j - k = i * k + j from by omega, pc_setG (a' := a') (fun r hr => h r (by simp [hr])) (by simpa using hi) hj, List.set_cons_succ, pc_cons]
/-- A level is written. -/
theorem lvs_set {gt : Option Nat} {B g cap i L : Nat} {w : World} {lv : List (List Int)} {a : List Int} {ta : Value} (h : Lvs gt B w (.slice (some ⟨g, 0, none⟩) L cap) lv) (hl : lv.length = L) (ha : LvO gt B w a [ta]) (hi : i < L) : Lvs gt B (w.setCell ⟨g, i, none⟩ ta) (.slice (some ⟨g, 0, none⟩) L cap) (lv.set i a) := by
  obtain ⟨P, h1, h2, h3, h4⟩ := h
  have hPl : P.length = L := by rw [← hl, ← h1, List.length_map]
  rw [hl] at h4
  obtain ⟨q, hq⟩ : ∃ q, P[i]? = some q := ⟨_, List.getElem?_eq_getElem (by omega)⟩
  obtain ⟨tq, e1, -, -⟩ := h3 _ (List.mem_of_getElem? hq)
  have hq2 : P[i]? = some (q.1, [tq]) := by rw [hq, ← e1]
  have hblk : ∀ (l : List Int) (c : List Value), LvO gt B w l c → LvO gt B (w.setCell ⟨g, i, none⟩ ta) l c := fun l c ⟨t, e1, e2, e3⟩ =>
    ⟨t, e1, ownsRow_setCell_other e2 (a := ⟨g, i, none⟩) (fun e => by
      rcases own_ne h4 e2 (by decide) with h5 | h5
      · rw [h5] at e; simp at e
      · exact h5 (by rw [e]; rfl)) ta, e3⟩
  have hst := (h4.stored i ta).1
  have hset := pc_setG (k := 1) (a' := a) (u := ta) (j := 0) h2 hq2 (by decide)
  rw [Nat.mul_one, Nat.add_zero] at hset
  rw [hset] at hst
  refine ⟨P.set i (a, [ta]), by rw [map_set, h1], h2.set rfl i, fun p hp => ?_, by rw [List.length_set, hl]; exact hst⟩
  rcases List.mem_or_eq_of_mem_set hp with h5 | h5
  · exact hblk _ _ (h3 p h5)
  · rw [h5]
    exact hblk _ _ ha
end Go.Proofs.Ytcljeedmiobepaa.Rk
