/-
  Words shared by the walks, part two: appends beside a struct of the call's own.
-/
import Derived.Test.YtcljeedmiobepaaLib
import Derived.Deep.AppendLies
import Derived.Deep.RegionLaw
import Derived.Deep.Cut
import Derived.Deep.DeepCutAuto
import Derived.Deep.QuietTactic
import Derived.BigQuiet
import Derived.Outline
import Derived.WalkSpells
namespace Go.Gh
open Go.RowKit
set_option linter.unusedVariables false

theorem below_own {w0 W w' : World} {B Bo : Nat} {e : TypeId} {size n : Nat} {v : Value} {xs : List Value} (hown : W.ownsRow Bo e size v n xs) (hbel : Below B w0 W) (hBo : B ≤ Bo) (hsz : B ≤ W.heap.size) (hg : W.grownBy w' v.ownBlock) : Below B w0 w' :=
  Below.grown hbel hg hsz (fun k hk => Nat.le_trans hBo (hown.lt k hk).1)

/-- A cell of another block stays, behind what grows an owned row. -/
theorem grown_cell {W w' : World} {Bo : Nat} {e : TypeId} {size n : Nat} {v : Value} {xs : List Value} (hown : W.ownsRow Bo e size v n xs) (hg : W.grownBy w' v.ownBlock) {b o : Nat} {u : Value} (hb : b < Bo) (hc : W.cell? ⟨b, o, none⟩ = some u) : w'.cell? ⟨b, o, none⟩ = some u := by
  refine hg.cell hc ?_
  intro h
  have := (hown.lt b (h.symm)).1
  omega
theorem grown_block {W w' : World} {Bo : Nat} {e : TypeId} {size n : Nat} {v : Value} {xs : List Value} (hown : W.ownsRow Bo e size v n xs) (hg : W.grownBy w' v.ownBlock) {b : Nat} {o : Obj} (hb : b < Bo) (hc : W.heap[b]? = some o) : w'.heap[b]? = some o := by
  rw [hg.block b (Array.getElem?_eq_some_iff.1 hc).1 ?_]
  · exact hc
  · intro h
    have := (hown.lt b (h.symm)).1
    omega

/-- append of one fresh element to an owned row, as one step of a region that draws. -/
theorem step_app1 {P : Program} {ops : Array Oper} {o : Oper} {a : Act} {K : Act → World → Prop} {Q : Exit → Act → World → Prop} {E : Prop} {w0 W : World} {B Bo : Nat} {t e : TypeId} {size bytes n : Nat} {xs : List Value} {v : Value} (cells : List Value)
    (el : Elem P t e size bytes) (hgd : o.guard = none) (s x : Operand) (ho : o.op = .call { callee := .builtin .append, args := #[s, x], argTypes := #[t, t] })
    (hown : W.ownsRow Bo e size v n xs) (hbel : Below B w0 W) (hBo : B ≤ Bo) (hB : Bo ≤ W.heap.size) (hs : a.eval s = v) (hx : a.eval x = .slice (some ⟨W.heap.size, 0, none⟩) 1 1)
    (hl : cells.length = size) (h1 : ∀ u ∈ cells, u.oneCell' = true) (h47 : (n + 1) * bytes ≤ 140737488355328) (h63 : n + 1 ≤ 9223372036854775807)
    (h : ∀ g cap w', w'.ownsRow Bo e size (.slice (some ⟨g, 0, none⟩) (n + 1) cap) (n + 1) (xs ++ cells) → Below B w0 w' → W.grownBy w' v.ownBlock → K (a.put o.dst (.slice (some ⟨g, 0, none⟩) (n + 1) cap)) w') :
    if Region.wanted o (yielded ops a.tmps) = true then Oper.wp P o a (W.alloc (.cells cells.toArray e)) K Q else E := by
  obtain ⟨i, z, h2, h3, h4, h5, h6⟩ := el.info
  refine step_append_lies _ hgd s x t ho Bo e i z size bytes el.und h2 h3 h4 h5 h6 el.pos v n xs hs (hown.alloc _) ⟨W.heap.size, 0, none⟩ 1 1 cells hx (by rw [Nat.one_mul]; exact hl) (fresh_cells W cells e) h1 (by decide) (by unfold maxLen; exact h63) h47 (by simp; omega) _ rfl ?_
  intro g cap w' hown' hg _ _
  have hg' := grown_trans (World.grownBy_alloc W (Obj.cells cells.toArray e) v.ownBlock) hg
  exact h g cap w' hown' (below_own hown hbel hBo (by omega) hg') hg'
theorem row_cell {w : World} {b : Nat} {cs : Array Value} {e : TypeId} (i : Nat) (u : Value) (h : w.heap[b]? = some (.cells cs e (0, 0))) (hi : cs[i]? = some u) : w.cell? ⟨b, i, none⟩ = some u ∧ w.frozen? ⟨b, i, none⟩ = false := by
  constructor
  · simp [World.cell?, h, hi]
  · simp [World.frozen?, h]
theorem row_setCell {w : World} {b : Nat} {cs : Array Value} {e : TypeId} (i : Nat) (u : Value) (h : w.heap[b]? = some (.cells cs e (0, 0))) : (w.setCell ⟨b, i, none⟩ u).heap[b]? = some (.cells (cs.setIfInBounds i u) e (0, 0)) := by
  simp [World.setCell, h, Array.getElem?_modify]
theorem row_setCell_other {w : World} {b b' i : Nat} {o : Obj} (u : Value) (h : w.heap[b]? = some o) (hne : b ≠ b') : (w.setCell ⟨b', i, none⟩ u).heap[b]? = some o := by
  rw [Below.heap_setCell w ⟨b', i, none⟩ u b hne]; exact h
theorem two_first (w : World) (o o' : Obj) : ((w.alloc o).alloc o').heap[w.heap.size]? = some o := by
  rw [Below.heap_alloc (w.alloc o) o' w.heap.size (by simp)]
  exact heap_alloc_new w o
theorem two_second (w : World) (o o' : Obj) : ((w.alloc o).alloc o').heap[w.heap.size + 1]? = some o' := by
  have := heap_alloc_new (w.alloc o) o'
  rwa [World.size_alloc] at this

theorem own_block_ne {w : World} {B : Nat} {e e' : TypeId} {size n b : Nat} {v : Value} {xs : List Value} {cs : Array Value} {fr : Nat × Nat} (h : w.ownsRow B e size v n xs) (hb : w.heap[b]? = some (.cells cs e' fr)) (hne : e ≠ e') : v.ownBlock ≠ some b := by
  rcases h.2 with ⟨rfl, _⟩ | ⟨g, cap, cur, rfl, _, hg, _⟩
  · simp [Value.ownBlock]
  · intro h'
    simp [Value.ownBlock] at h'
    subst h'
    rw [hb] at hg
    simp at hg
    exact hne hg.2.1.symm
theorem grown_block2 {W w' : World} {row : Option Nat} (hg : W.grownBy w' row) {b : Nat} {o : Obj} (hne : row ≠ some b) (hc : W.heap[b]? = some o) : w'.heap[b]? = some o := by
  rw [hg.block b (Array.getElem?_eq_some_iff.1 hc).1 (fun h => hne h.symm)]
  exact hc

theorem grown_setCell {w w' : World} {b : Nat} (h : w.grownBy w' (some b)) (i : Nat) (u : Value) : w.grownBy (w'.setCell ⟨b, i, none⟩ u) (some b) :=
  ⟨h.os, h.tape, h.output, by simpa using h.size, fun k hk hne => by
    rw [Below.heap_setCell w' ⟨b, i, none⟩ u k (fun e => hne (by rw [e]))]
    exact h.block k hk hne⟩
theorem grown_drewN {w w' : World} {r : Option Nat} (h : w.grownBy w' r) (n : Nat) : w.grownBy (w'.drewN n) r := ⟨h.os, h.tape, h.output, h.size, h.block⟩
theorem below_of_grown {w w' : World} {r : Option Nat} {B : Nat} (h : w.grownBy w' r) (hB : B ≤ w.heap.size) (hr : ∀ k, r = some k → B ≤ k) : Below B w w' := Below.grown (Below.refl _ _) h hB hr

/-- 'append1' where the new cell's block is spelled as a number. -/
theorem append1p {P : Program} {ops : Array Oper} {rest : List Oper} {o : Oper} {a : Act} {Q : Exit → Act → World → Prop} {w0 W : World} {B p : Nat} {t e : TypeId} {size bytes n : Nat} {xs : List Value} {v : Value} (cells : List Value)
    (el : Elem P t e size bytes) (hgd : o.guard = none) (s x : Operand) (ho : o.op = .call { callee := .builtin .append, args := #[s, x], argTypes := #[t, t] })
    (hown : W.ownsRow B e size v n xs) (hbel : Below B w0 W) (hB : B ≤ W.heap.size) (hs : a.eval s = v) (hx : a.eval x = .slice (some ⟨p, 0, none⟩) 1 1) (hp : p = W.heap.size)
    (hl : cells.length = size) (h1 : ∀ u ∈ cells, u.oneCell' = true) (h47 : (n + 1) * bytes ≤ 140737488355328) (h63 : n + 1 ≤ 9223372036854775807)
    (h : ∀ v' w', w'.ownsRow B e size v' (n + 1) (xs ++ cells) → Below B w0 w' → W.grownBy w' v.ownBlock → wpList P ops Q rest (a.put o.dst v') w') :
    wpList P ops Q (o :: rest) a (W.alloc (.cells cells.toArray e)) := by
  subst hp
  exact append1 cells el hgd s x ho hown hbel hB hs hx hl h1 h47 h63 h
end Go.Gh
