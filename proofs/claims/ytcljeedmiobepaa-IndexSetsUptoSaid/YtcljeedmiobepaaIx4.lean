/-
  The law IndexSets: two rows of one's own that grow by turns, apart from each other.
-/
import Derived.Test.YtcljeedmiobepaaIx3
import Derived.Deep.AppendLies
namespace Go.Proofs.Ytcljeedmiobepaa.Ix
open Go.RowKit Go.Gh Go.Proofs.Ytcljeedmiobepaa.Rk
set_option linter.unusedVariables false
/-- append of one: it says where the row lies then. -/
theorem append1L {P : Program} {ops : Array Oper} {rest : List Oper} {o : Oper} {a : Act} {Q : Exit → Act → World → Prop} {w0 W : World} {B : Nat} {t e : TypeId} {bytes n : Nat} {xs : List Value} {v u : Value}
    (el : Elem P t e 1 bytes) (hgd : o.guard = none) (s x : Operand) (ho : o.op = .call { callee := .builtin .append, args := #[s, x], argTypes := #[t, t] })
    (hown : W.ownsRow B e 1 v n xs) (hbel : Below B w0 W) (hB : B ≤ W.heap.size) (hs : a.eval s = v) (hx : a.eval x = .slice (some ⟨W.heap.size, 0, none⟩) 1 1)
    (h1 : u.oneCell' = true) (h47 : (n + 1) * bytes ≤ 140737488355328) (h63 : n + 1 ≤ 9223372036854775807)
    (h : ∀ g cap w', w'.ownsRow B e 1 (.slice (some ⟨g, 0, none⟩) (n + 1) cap) (n + 1) (xs ++ [u]) → Below B w0 w' → W.grownBy w' v.ownBlock → (v.ownBlock = some g ∨ W.heap.size ≤ g) → wpList P ops Q rest (a.put o.dst (.slice (some ⟨g, 0, none⟩) (n + 1) cap)) w') :
    wpList P ops Q (o :: rest) a (W.alloc (.cells #[u] e)) := by
  obtain ⟨i, z, h2, h3, h4, h5, h6⟩ := el.info
  refine wpList_append_lies (w := W.alloc (.cells #[u] e)) hgd s x t ho B e i z 1 bytes el.und h2 h3 h4 h5 h6 el.pos v n xs hs (hown.alloc _) ⟨W.heap.size, 0, none⟩ 1 1 [u] hx rfl (fresh_cells W [u] e) (by intro y hy; simp at hy; rw [hy]; exact h1) (by decide) (by unfold maxLen; exact h63) h47 (by simp; omega) _ rfl (fun g cap w' h7 h8 h9 h10 => ?_)
  have hg : W.grownBy w' v.ownBlock := ⟨h8.os, h8.tape, h8.output, by have := h8.size; simp at this; omega, fun k hk hne => (h8.block k (by simp; omega) hne).trans (Below.heap_alloc _ _ _ hk)⟩
  refine h g cap w' h7 (Below.grown hbel hg hB (fun k hk => (hown.lt k hk).1)) hg ?_
  rcases h9 with h9 | h9
  · exact Or.inl h9
  · exact Or.inr (by rw [h9]; simp)
/-- Two rows of one's own, apart. -/
structure Two (w0 : World) (B : Nat) (x : Value) (p : Nat) (l : List Int) (y : Value) (q : Nat) (m : List Int) (wr : World) : Prop where
  fst : wr.ownsRow B 3 1 x p (l.map (Value.int .i64))
  snd : wr.ownsRow B 3 1 y q (m.map (Value.int .i64))
  apart : x.ownBlock = none ∨ x.ownBlock ≠ y.ownBlock
  bel : Below B w0 wr
  low : B ≤ wr.heap.size
theorem Two.grow1 {w0 wr w' : World} {B p q g cap : Nat} {x y : Value} {l l' m : List Int} (h : Two w0 B x p l y q m wr) (ho : w'.ownsRow B 3 1 (.slice (some ⟨g, 0, none⟩) (p + 1) cap) (p + 1) (l'.map (Value.int .i64))) (hb : Below B w0 w') (hg : wr.grownBy w' x.ownBlock) (hl : x.ownBlock = some g ∨ wr.heap.size ≤ g) : Two w0 B (.slice (some ⟨g, 0, none⟩) (p + 1) cap) (p + 1) l' y q m w' := by
  have hyx : y.ownBlock = none ∨ y.ownBlock ≠ x.ownBlock := by
    cases hy : y.ownBlock with
    | none => exact Or.inl rfl
    | some k =>
      rcases h.apart with h1 | h1
      · exact Or.inr (by rw [h1]; simp)
      · exact Or.inr (by rw [← hy]; exact fun e => h1 e.symm)
  refine ⟨ho, h.snd.kept hg hyx, Or.inr fun e => ?_, hb, Nat.le_trans h.low hg.size⟩
  have e2 : y.ownBlock = some g := e.symm
  rcases hl with h1 | h1
  · rcases h.apart with h2 | h2
    · rw [h2] at h1; simp at h1
    · exact h2 (by rw [h1, e2])
  · have := (h.snd.lt g e2).2
    omega
theorem Two.swap {w0 wr : World} {B p q : Nat} {x y : Value} {l m : List Int} (h : Two w0 B x p l y q m wr) : Two w0 B y q m x p l wr := ⟨h.snd, h.fst, by
    cases hy : y.ownBlock with
    | none => exact Or.inl rfl
    | some k =>
      rcases h.apart with h1 | h1
      · exact Or.inr (by rw [h1]; simp)
      · exact Or.inr (by rw [← hy]; exact fun e => h1 e.symm), h.bel, h.low⟩
theorem Two.below {w0 wr w' : World} {B p q : Nat} {x y : Value} {l m : List Int} (h : Two w0 B x p l y q m wr) (hb : Below wr.heap.size wr w') : Two w0 B x p l y q m w' := ⟨own_below h.fst hb, own_below h.snd hb, h.apart, h.bel.trans (hb.mono h.low), Nat.le_trans h.low hb.size⟩
theorem Two.ns1 {w0 wr : World} {B p q : Nat} {x y : Value} {l m : List Int} (h : Two w0 B x p l y q m wr) (hp : l.length = p) : Ns wr x l := by unfold Ns; rw [hp]; exact own_sl h.fst
theorem Two.put1 {w0 wr w' : World} {B p q : Nat} {x y : Value} {l l' m : List Int} (h : Two w0 B x p l y q m wr) (ho : w'.ownsRow B 3 1 x p (l'.map (Value.int .i64))) (hg : wr.grownBy w' x.ownBlock) : Two w0 B x p l' y q m w' := by
  have hyx : y.ownBlock = none ∨ y.ownBlock ≠ x.ownBlock := h.swap.apart
  exact ⟨ho, h.snd.kept hg hyx, h.apart, Below.grown h.bel hg h.low (fun k hk => (h.fst.lt k hk).1), Nat.le_trans h.low hg.size⟩
def LawRel (w0 : World) (B : Nat) (a b z : List Int) (N : Nat) (x y i : Value) (wr : World) : Prop := ∃ j, j ≤ N ∧ i = .int .i64 j ∧ Two w0 B x (anTo a b z j).2.length (anTo a b z j).2 y (anTo a b z j).1.length (anTo a b z j).1 wr
def IsNs (w : World) (v : Value) : Prop := ∃ l, Ns w v l ∧ l.length ≤ 1048576
end Go.Proofs.Ytcljeedmiobepaa.Ix
