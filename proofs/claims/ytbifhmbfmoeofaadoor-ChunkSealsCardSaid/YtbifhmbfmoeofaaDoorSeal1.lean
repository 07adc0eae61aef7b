/-
  A chunk's bytes: as plain functions; two rows of the call's own that grow by turns.
-/
import Derived.Test.YtbifhmbfmoeofaaDoorDelta2
import Derived.Test.YtbifhmbfmoeofaaDoorXor4
import Derived.Test.YtbifhmbfmoeofaaDoorBits7
import Derived.Test.YtbifhmbfmoeofaaDoorBits2
import Derived.Test.YtbifhmbfmoeofaaDoorBitsV
import Derived.Test.YtbifhmbfmoeofaaDoorSmpEl
import Derived.Test.YtbifhmbfmoeofaaDoorLib6
import Derived.Deep.AppendLies
import Derived.Deep.RegionHeld3
namespace Go.Proofs.YtbifhmbfmoeofaaDoor.Seal
open Go.RowKit Go.Gh Go.Proofs.YtbifhmbfmoeofaaDoor.Bits
set_option linter.unusedVariables false
def timesF (l : List (List Int)) : List Int := l.map fun r => rg r 0
def valsF (l : List (List Int)) : List Int := l.map fun r => IntKind.u64.wrap (rg r 1)
def sealP (s1 s2 : List Bool) : List Int := putI 9 s1.length ++ pack s1 ++ (putI 9 s2.length ++ pack s2)
def sealF (l : List (List Int)) : List Int := sealP (tsTo (timesF l) l.length) (msTo (valsF l) l.length).1
theorem timesF_wf {l : List (List Int)} (h : Rows64 2 l) : ∀ z ∈ timesF l, (Lit.int .i64 z).wf = true := by
  intro z hz
  obtain ⟨r, hr, rfl⟩ := List.mem_map.1 hz
  obtain ⟨h1, h2⟩ := h r hr
  refine h2 _ ?_
  unfold rg
  rw [List.getD_eq_getElem?_getD, List.getElem?_eq_getElem (by omega)]
  exact List.getElem_mem _
theorem valsF_wf (l : List (List Int)) : ∀ z ∈ valsF l, (Lit.int .u64 z).wf = true := by
  intro z hz
  obtain ⟨r, hr, rfl⟩ := List.mem_map.1 hz
  have : IntKind.u64.wrap (rg r 1) = (rg r 1) % 18446744073709551616 := IntKind.wrap_u64 _
  simp [Lit.wf, IntKind.min, IntKind.max, IntKind.signed, IntKind.bits]
  omega
theorem take_snoc {α : Type} (l : List α) {k : Nat} (h : k < l.length) : l.take (k + 1) = l.take k ++ [l[k]] := (List.take_append_getElem h).symm
theorem times_snoc {l : List (List Int)} {k : Nat} (h : k < l.length) : (timesF l).take (k + 1) = (timesF l).take k ++ [rg (l.getD k []) 0] := by
  unfold timesF
  rw [take_snoc _ (by simpa using h)]
  simp [List.getD_eq_getElem?_getD, h]
theorem vals_snoc {l : List (List Int)} {k : Nat} (h : k < l.length) : (valsF l).take (k + 1) = (valsF l).take k ++ [IntKind.u64.wrap (rg (l.getD k []) 1)] := by
  unfold valsF
  rw [take_snoc _ (by simpa using h)]
  simp [List.getD_eq_getElem?_getD, h]
/-- append of what there is (one cell an element) to a row of one's own: as a step. -/
theorem step_app_lies {P : Program} {ops : Array Oper} {o : Oper} {a : Act} {K : Act → World → Prop} {Q : Exit → Act → World → Prop} {E : Prop} {W : World} {B : Nat} {t e : TypeId} {bytes n m : Nat} {v fv : Value} {xs news : List Value} (el : Elem P t e 1 bytes) (hgd : o.guard = none) (s x : Operand)
    (ho : o.op = .call { callee := .builtin .append, args := #[s, x], argTypes := #[t, t] }) (hown : W.ownsRow B e 1 v n xs) (hs : a.eval s = v) (hxv : a.eval x = fv) (hx : Sl W 1 fv m news) (h1 : ∀ u ∈ news, u.oneCell' = true)
    (hm : 0 < m) (h47 : (n + m) * bytes ≤ 140737488355328) (h63 : n + m ≤ 9223372036854775807) (hB : B ≤ W.heap.size)
    (h : ∀ g cap w', w'.ownsRow B e 1 (.slice (some ⟨g, 0, none⟩) (n + m) cap) (n + m) (xs ++ news) → W.grownBy w' v.ownBlock → K (a.put o.dst (.slice (some ⟨g, 0, none⟩) (n + m) cap)) w') :
    if Region.wanted o (yielded ops a.tmps) = true then Oper.wp P o a W K Q else E := by
  obtain ⟨i, z, h2, h3, h4, h5, h6⟩ := el.info
  obtain ⟨ao, cap, rfl, g2, g3, g4, g5, g6⟩ := hx
  obtain ⟨b, off, rfl, hc⟩ := g6 hm
  exact step_append_lies W hgd s x t ho B e i z 1 bytes el.und h2 h3 h4 h5 h6 (by decide) v n xs hs hown _ m cap news hxv g5 (fun j u hu => by rw [addr_add]; exact hc j u hu) h1 hm (by unfold maxLen; exact h63) h47 hB _ rfl (fun g cap w' h7 h8 _ _ => h g cap w' h7 h8)
theorem wp_app_lies {P : Program} {ops : Array Oper} {rest : List Oper} {o : Oper} {a : Act} {Q : Exit → Act → World → Prop} {W : World} {B : Nat} {t e : TypeId} {bytes n m : Nat} {v fv : Value} {xs news : List Value} (el : Elem P t e 1 bytes) (hgd : o.guard = none) (s x : Operand)
    (ho : o.op = .call { callee := .builtin .append, args := #[s, x], argTypes := #[t, t] }) (hown : W.ownsRow B e 1 v n xs) (hs : a.eval s = v) (hxv : a.eval x = fv) (hx : Sl W 1 fv m news) (h1 : ∀ u ∈ news, u.oneCell' = true)
    (hm : 0 < m) (h47 : (n + m) * bytes ≤ 140737488355328) (h63 : n + m ≤ 9223372036854775807) (hB : B ≤ W.heap.size)
    (h : ∀ g cap w', w'.ownsRow B e 1 (.slice (some ⟨g, 0, none⟩) (n + m) cap) (n + m) (xs ++ news) → W.grownBy w' v.ownBlock → wpList P ops Q rest (a.put o.dst (.slice (some ⟨g, 0, none⟩) (n + m) cap)) w') : wpList P ops Q (o :: rest) a W := by
  obtain ⟨i, z, h2, h3, h4, h5, h6⟩ := el.info
  obtain ⟨ao, cap, rfl, g2, g3, g4, g5, g6⟩ := hx
  obtain ⟨b, off, rfl, hc⟩ := g6 hm
  exact wpList_append_lies W hgd s x t ho B e i z 1 bytes el.und h2 h3 h4 h5 h6 (by decide) v n xs hs hown _ m cap news hxv g5 (fun j u hu => by rw [addr_add]; exact hc j u hu) h1 hm (by unfold maxLen; exact h63) h47 hB _ rfl (fun g cap w' h7 h8 _ _ => h g cap w' h7 h8)
/-- Two rows of the call's own, of different elements, and a box. -/
def Pair (w : World) (B : Nat) (e1 e2 T : TypeId) (v1 : Value) (n1 : Nat) (xs1 : List Value) (v2 : Value) (n2 : Nat) (xs2 : List Value) (bx : Nat) (cs : Array Value) (W : World) : Prop :=
  W.ownsRow B e1 1 v1 n1 xs1 ∧ W.ownsRow B e2 1 v2 n2 xs2 ∧ Below B w W ∧ B ≤ W.heap.size ∧ W.heap[bx]? = some (.cells cs T (0, 0))
section
variable {w W : World} {B : Nat} {e1 e2 T : TypeId} {v1 : Value} {n1 : Nat} {xs1 : List Value} {v2 : Value} {n2 : Nat} {xs2 : List Value} {bx : Nat} {cs : Array Value}
theorem Pair.alloc (h : Pair w B e1 e2 T v1 n1 xs1 v2 n2 xs2 bx cs W) (o : Obj) : Pair w B e1 e2 T v1 n1 xs1 v2 n2 xs2 bx cs (W.alloc o) := by
  obtain ⟨h1, h2, h3, h4, h5⟩ := h
  exact ⟨h1.alloc _, h2.alloc _, h3.alloc h4 _, by simp; omega, (Below.heap_alloc _ _ _ (Array.getElem?_eq_some_iff.1 h5).1).trans h5⟩
theorem Pair.drew (h : Pair w B e1 e2 T v1 n1 xs1 v2 n2 xs2 bx cs W) : Pair w B e1 e2 T v1 n1 xs1 v2 n2 xs2 bx cs W.drew := by
  obtain ⟨h1, h2, h3, h4, h5⟩ := h
  exact ⟨h1.drew, h2.drew, h3.drew, h4, h5⟩
theorem Pair.cells {x y : Value} (h : Pair w B e1 e2 T v1 n1 xs1 v2 n2 xs2 bx #[x, y] W) : W.cell? ⟨bx, 0, none⟩ = some x ∧ W.cell? ⟨bx, 1, none⟩ = some y := ⟨(row_cell 0 x h.2.2.2.2 rfl).1, (row_cell 1 y h.2.2.2.2 rfl).1⟩
/-- What keeps all blocks of another element. -/
def Keeps (e : TypeId) (W w' : World) : Prop := ∀ (x : Nat) (cs : Array Value) (e' : TypeId) (fr : Nat × Nat), W.heap[x]? = some (Obj.cells cs e' fr) → e' ≠ e → w'.heap[x]? = some (Obj.cells cs e' fr)
theorem keeps_of {size n : Nat} {e : TypeId} {v : Value} {xs : List Value} {w' : World} (h : W.ownsRow B e size v n xs) (hg : W.grownBy w' v.ownBlock) : Keeps e W w' := fun x cs e' fr hx hne => grown_block2 hg (own_block_ne h hx (Ne.symm hne)) hx
theorem own_keeps {size n : Nat} {e e' : TypeId} {v : Value} {xs : List Value} {w' : World} (h : W.ownsRow B e size v n xs) (hk : Keeps e' W w') (hne : e ≠ e') : w'.ownsRow B e size v n xs := by
  refine ⟨h.1, ?_⟩
  rcases h.2 with h | ⟨g, cap, cur, rfl, h1, h2, h3⟩
  · exact .inl h
  · exact .inr ⟨g, cap, cur, rfl, h1, hk _ _ _ _ h2 hne, h3⟩
theorem Pair.first {w' : World} {m : Nat} {v' : Value} {ys : List Value} (h : Pair w B e1 e2 T v1 n1 xs1 v2 n2 xs2 bx cs W) (hne : e2 ≠ e1) (hT : T ≠ e1) (ho : w'.ownsRow B e1 1 v' m ys) (hg : W.grownBy w' v1.ownBlock) : Pair w B e1 e2 T v' m ys v2 n2 xs2 bx cs w' ∧ Keeps e1 W w' := by
  obtain ⟨h1, h2, h3, h4, h5⟩ := h
  have hk := keeps_of h1 hg
  have := hg.size
  exact ⟨⟨ho, own_keeps h2 hk hne, Below.grown h3 hg h4 (fun k hk => (h1.lt k hk).1), by omega, hk _ _ _ _ h5 hT⟩, hk⟩
theorem Pair.second {w' : World} {m : Nat} {v' : Value} {ys : List Value} (h : Pair w B e1 e2 T v1 n1 xs1 v2 n2 xs2 bx cs W) (hne : e1 ≠ e2) (hT : T ≠ e2) (ho : w'.ownsRow B e2 1 v' m ys) (hg : W.grownBy w' v2.ownBlock) : Pair w B e1 e2 T v1 n1 xs1 v' m ys bx cs w' ∧ Keeps e2 W w' := by
  obtain ⟨h1, h2, h3, h4, h5⟩ := h
  have hk := keeps_of h2 hg
  have := hg.size
  exact ⟨⟨own_keeps h1 hk hne, ho, Below.grown h3 hg h4 (fun k hk => (h2.lt k hk).1), by omega, hk _ _ _ _ h5 hT⟩, hk⟩
/-- A slice of one element, out of its block. -/
theorem sl_one {p : Nat} {e : TypeId} {u : Value} (h : W.heap[p]? = some (.cells #[u] e (0, 0))) : Sl W 1 (.slice (some ⟨p, 0, none⟩) 1 1) 1 [u] := by
  refine ⟨_, _, rfl, Nat.le_refl _, by decide, fun h => by simp at h, rfl, fun _ => ⟨p, 0, rfl, fun i x hx => ?_⟩⟩
  match i, hx with
  | 0, hx =>
    have : u = x := by simpa using hx
    subst this
    exact (row_cell 0 u h rfl).1
theorem step_first {P : Program} {ops : Array Oper} {o : Oper} {a : Act} {K : Act → World → Prop} {Q : Exit → Act → World → Prop} {E : Prop} {t : TypeId} {bytes p : Nat} {u : Value} (el : Elem P t e1 1 bytes) (hgd : o.guard = none) (s x : Operand)
    (ho : o.op = .call { callee := .builtin .append, args := #[s, x], argTypes := #[t, t] }) (hs : a.eval s = v1) (hx : a.eval x = .slice (some ⟨p, 0, none⟩) 1 1) (S : Pair w B e1 e2 T v1 n1 xs1 v2 n2 xs2 bx cs W) (hb : W.heap[p]? = some (.cells #[u] e1 (0, 0))) (h1 : u.oneCell' = true)
    (h47 : (n1 + 1) * bytes ≤ 140737488355328) (h63 : n1 + 1 ≤ 9223372036854775807) (hne : e2 ≠ e1) (hT : T ≠ e1)
    (h : ∀ g cap w', Pair w B e1 e2 T (.slice (some ⟨g, 0, none⟩) (n1 + 1) cap) (n1 + 1) (xs1 ++ [u]) v2 n2 xs2 bx cs w' → Keeps e1 W w' → K (a.put o.dst (.slice (some ⟨g, 0, none⟩) (n1 + 1) cap)) w') :
    if Region.wanted o (yielded ops a.tmps) = true then Oper.wp P o a W K Q else E :=
  step_app_lies el hgd s x ho S.1 hs hx (sl_one hb) (by intro y hy; simp at hy; subst hy; exact h1) (by decide) h47 h63 S.2.2.2.1 (fun g cap w' h7 h8 => h g cap w' (S.first hne hT h7 h8).1 (S.first hne hT h7 h8).2)
theorem step_second {P : Program} {ops : Array Oper} {o : Oper} {a : Act} {K : Act → World → Prop} {Q : Exit → Act → World → Prop} {E : Prop} {t : TypeId} {bytes p : Nat} {u : Value} (el : Elem P t e2 1 bytes) (hgd : o.guard = none) (s x : Operand)
    (ho : o.op = .call { callee := .builtin .append, args := #[s, x], argTypes := #[t, t] }) (hs : a.eval s = v2) (hx : a.eval x = .slice (some ⟨p, 0, none⟩) 1 1) (S : Pair w B e1 e2 T v1 n1 xs1 v2 n2 xs2 bx cs W) (hb : W.heap[p]? = some (.cells #[u] e2 (0, 0))) (h1 : u.oneCell' = true)
    (h47 : (n2 + 1) * bytes ≤ 140737488355328) (h63 : n2 + 1 ≤ 9223372036854775807) (hne : e1 ≠ e2) (hT : T ≠ e2)
    (h : ∀ g cap w', Pair w B e1 e2 T v1 n1 xs1 (.slice (some ⟨g, 0, none⟩) (n2 + 1) cap) (n2 + 1) (xs2 ++ [u]) bx cs w' → Keeps e2 W w' → K (a.put o.dst (.slice (some ⟨g, 0, none⟩) (n2 + 1) cap)) w') :
    if Region.wanted o (yielded ops a.tmps) = true then Oper.wp P o a W K Q else E :=
  step_app_lies el hgd s x ho S.2.1 hs hx (sl_one hb) (by intro y hy; simp at hy; subst hy; exact h1) (by decide) h47 h63 S.2.2.2.1 (fun g cap w' h7 h8 => h g cap w' (S.second hne hT h7 h8).1 (S.second hne hT h7 h8).2)
end
theorem infoI64 : (Tryd.prog.info? 2).map (fun i => (i.zero, i.size, i.bytes)) = some (some (.int .i64 0), 1, 8) := by kernel_rfl
theorem elI64 : Elem Tryd.prog 37 2 1 8 := elem_of Tryd.underlying37 infoI64 rfl (by decide)
theorem infoU64 : (Tryd.prog.info? 63).map (fun i => (i.zero, i.size, i.bytes)) = some (some (.int .u64 0), 1, 8) := by kernel_rfl
theorem elU64 : Elem Tryd.prog 46 63 1 8 := elem_of Tryd.underlying46 infoU64 rfl (by decide)
end Go.Proofs.YtbifhmbfmoeofaaDoor.Seal
