/-
  A chunk's bytes: as plain functions; two rows of the call's own that grow by turns.
-/
import Derived.Test.YtbifhmbfmoeofaaDoorCo3
import Derived.Test.YtbifhmbfmoeofaaDoorCo4
import Derived.Test.YtbifhmbfmoeofaaDoorCo5
import Derived.Test.YtbifhmbfmoeofaaDoorCo6
import Derived.Deep.AppendLies
import Derived.Deep.RegionHeld3
namespace Go.Proofs.YtbifhmbfmoeofaaDoor.Seal
open Go.RowKit Go.Gh Go.Proofs.YtbifhmbfmoeofaaDoor.Bits
set_option linter.unusedVariables false
def timesF (l : List (List Int)) : List Int := l.map fun r => rg r 0
def valsF (l : List (List Int)) : List Int := l.map fun r => IntKind.u64.wrap (rg r 1)
def sealP (s1 s2 : List Bool) : List Int := putI 9 s1.length ++ pack s1 ++ (putI 9 s2.length ++ pack s2)
def sealF (l : List (List Int)) : List Int := sealP (tsTo (timesF l) l.length) (msTo (valsF l) l.length).1
theorem timesF_wf {l : List (List Int)} (h : Rows64 2 l) : ∀ z ∈ timesF l, (Lit.int .i64 z).wf = true := by
  intro z hz
  obtain ⟨r, hr, rfl⟩ := List.mem_map.1 hz
  obtain ⟨h1, h2⟩ := h r hr
  refine h2 _ ?_
  unfold rg
  rw [List.getD_eq_getElem?_getD, List.getElem?_eq_getElem (by omega)]
  exact List.getElem_mem _
theorem valsF_wf (l : List (List Int)) : ∀ z ∈ valsF l, (Lit.int .u64 z).wf = true := by
  intro z hz
  obtain ⟨r, hr, rfl⟩ := List.mem_map.1 hz
  have : IntKind.u64.wrap (rg r 1) = (rg r 1) % 18446744073709551616 := IntKind.wrap_u64 _
  simp [Lit.wf, IntKind.min, IntKind.max, IntKind.signed, IntKind.bits]
  omega
theorem take_snoc {α : Type} (l : List α) {k : Nat} (h : k < l.length) : l.take (k + 1) = l.take k ++ [l[k]] := (List.take_append_getElem h).symm
theorem times_snoc {l : List (List Int)} {k : Nat} (h : k < l.length) : (timesF l).take (k + 1) = (timesF l).take k ++ [rg (l.getD k []) 0] := by
  unfold timesF
  rw [take_snoc _ (by simpa using h)]
  simp [List.getD_eq_getElem?_getD, h]
theorem vals_snoc {l : List (List Int)} {k : Nat} (h : k < l.length) : (valsF l).take (k + 1) = (valsF l).take k ++ [IntKind.u64.wrap (rg (l.getD k []) 1)] := by
  unfold valsF
  rw [take_snoc _ (by simpa using h)]
  simp [List.getD_eq_getElem?_getD, h]
/-- append of what there is (one cell an element) to a row of one's own: as a step. -/
theorem step_app_lies {P : Program} {ops : Array Oper} {o : Oper} {a : Act} {K : Act → World → Prop} {Q : Exit → Act → World → Prop} {E : Prop} {W : World} {B : Nat} {t e : TypeId} {bytes n m : Nat} {v fv : Value} {xs news : List Value} (el : Elem P t e 1 bytes) (hgd : o.guard = none) (s x : Operand)
    (ho : o.op = .call { callee := .builtin .append, args := #[s, x], argTypes := #[t, t] }) (hown : W.ownsRow B e 1 v n xs) (hs : a.eval s = v) (hxv : a.eval x = fv) (hx : Sl W 1 fv m news) (h1 : ∀ u ∈ news, u.oneCell' = true)
    (hm : 0 < m) (h47 : (n + m) * bytes ≤ 140737488355328) (h63 : n + m ≤ 9223372036854775807) (hB : B ≤ W.heap.size)
    (h : ∀ g cap w', w'.ownsRow B e 1 (.slice (some ⟨g, 0, none⟩) (n + m) cap) (n + m) (xs ++ news) → W.grownBy w' v.ownBlock → K (a.put o.dst (.slice (some ⟨g, 0, none⟩) (n + m) cap)) w') :
    if Region.wanted o (yielded ops a.tmps) = true then Oper.wp P o a W K Q else E := by
  obtain ⟨i, z, h2, h3, h4, h5, h6⟩ := el.info
  obtain ⟨ao, cap, rfl, g2, g3, g4, g5, g6⟩ := hx
  obtain ⟨b, off, rfl, hc⟩ := g6 hm
  exact step_append_lies W hgd s x t ho B e i z 1 bytes el.und h2 h3 h4 h5 h6 (by decide) v n xs hs hown _ m cap news hxv g5 (fun j u hu => by rw [addr_add]; exact hc j u hu) h1 hm (by unfold maxLen; exact h63) h47 hB _ rfl (fun g cap w' h7 h8 _ _ => h g cap w' h7 h8)
theorem wp_app_lies {P : Program} {ops : Array Oper} {rest : List Oper} {o : Oper} {a : Act} {Q : Exit → Act → World → Prop} {W : World} {B : Nat} {t e : TypeId} {bytes n m : Nat} {v fv : Value} {xs news : List Value} (el : Elem P t e 1 bytes) (hgd : o.guard = none) (s x : Operand)
    (ho : o.op = .call { callee := .builtin .append, args := #[s, x], argTypes := #[t, t] }) (hown : W.ownsRow B e 1 v n xs) (hs : a.eval s = v) (hxv : a.eval x = fv) (hx : Sl W 1 fv m news) (h1 : ∀ u ∈ news, u.oneCell' = true)
    (hm : 0 < m) (h47 : (n + m) * bytes ≤ 140737488355328) (h63 : n + m ≤ 9223372036854775807) (hB : B ≤ W.heap.size)
    (h : ∀ g cap w', w'.ownsRow B e 1 (.slice (some ⟨g, 0, none⟩) (n + m) cap) (n + m) (xs ++ news) → W.grownBy w' v.ownBlock → wpList P ops Q rest (a.put o.dst (.slice (some ⟨g, 0, none⟩) (n + m) cap)) w') : wpList P ops Q (o :: rest) a W := by
  obtain ⟨i, z, h2, h3, h4, h5, h6⟩ := el.info
  obtain ⟨ao, cap, rfl, g2, g3, g4, g5, g6⟩ := hx
  obtain ⟨b, off, rfl, hc⟩ := g6 hm
  exact wpList_append_lies W hgd s x t ho B e i z 1 bytes el.und h2 h3 h4 h5 h6 (by decide) v n xs hs hown _ m cap news hxv g5 (fun j u hu => by rw [addr_add]; exact hc j u hu) h1 hm (by unfold maxLen; exact h63) h47 hB _ rfl (fun g cap w' h7 h8 _ _ => h g cap w' h7 h8)
/-- Two rows of the call's own, of different elements, and a box. -/
def Pair (w : World) (B : Nat) (e1 e2 T : TypeId) (v1 : Value) (n1 : Nat) (xs1 : List Value) (v2 : Value) (n2 : Nat) (xs2 : List Value) (bx : Nat) (cs : Array Value) (W : World) : Prop :=
  W.ownsRow B e1 1 v1 n1 xs1 ∧ W.ownsRow B e2 1 v2 n2 xs2 ∧ Below B w W ∧ B ≤ W.heap.size ∧ W.heap[bx]? = some (.cells cs T (0, 0))
section
variable {w W : World} {B : Nat} {e1 e2 T : TypeId} {v1 : Value} {n1 : Nat} {xs1 : List Value} {v2 : Value} {n2 : Nat} {xs2 : List Value} {bx : Nat} {cs : Array Value}
theorem Pair.alloc (h : Pair w B e1 e2 T v1 n1 xs1 v2 n2 xs2 bx cs W) (o : Obj) : Pair w B e1 e2 T v1 n1 xs1 v2 n2 xs2 bx cs (W.alloc o) := by
  obtain ⟨h1, h2, h3, h4, h5⟩ := h
  exact ⟨h1.alloc _, h2.alloc _, h3.alloc h4 _, by simp; omega, (Below.heap_alloc _ _ _ (Array.getElem?_eq_some_iff.1 h5).1).trans h5⟩
theorem Pair.drew (h : Pair w B e1 e2 T v1 n1 xs1 v2 n2 xs2 bx cs W) : Pair w B e1 e2 T v1 n1 xs1 v2 n2 xs2 bx cs W.drew := by
  obtain ⟨h1, h2, h3, h4, h5⟩ := h
  exact ⟨h1.drew, h2.drew, h3.drew, h4, h5⟩
theorem Pair.cells {x y : Value} (h : Pair w B e1 e2 T v1 n1 xs1 v2 n2 xs2 bx #[x, y] W) : W.cell? ⟨bx, 0, none⟩ = some x ∧ W.cell? ⟨bx, 1, none⟩ = some y := ⟨(row_cell 0 x h.2.2.2.2 rfl).1, (row_cell 1 y h.2.2.2.2 rfl).1⟩
/-- What keeps all blocks of another element. -/
def Keeps (e : TypeId) (W w' : World) : Prop := ∀ (x : Nat) (cs : Array Value) (e' : TypeId) (fr : Nat × Nat), W.heap[x]? = some (Obj.cells cs e' fr) → e' ≠ e → w'.heap[x]? = some (Obj.cells cs e' fr)
theorem keeps_of {size n : Nat} {e : TypeId} {v : Value} {xs : List Value} {w' : World} (h : W.ownsRow B e size v n xs) (hg : W.grownBy w' v.ownBlock) : Keeps e W w' := fun x cs e' fr hx hne => grown_block2 hg (own_block_ne h hx (Ne.symm hne)) hx
theorem own_keeps {size n : Nat} {e e' : TypeId} {v : Value} {xs : List Value} {w' : World} (h : W.ownsRow B e size v n xs) (hk : Keeps e' W w') (hne : e ≠ e') : w'.ownsRow B e size v n xs := by
  refine ⟨h.1, ?_⟩
  rcases h.2 with h | ⟨g, cap, cur, rfl, h1, h2, h3⟩
  · exact .inl h
  · exact .inr ⟨g, cap, cur, rfl, h1, hk _ _ _ _ h2 hne, h3⟩
theorem Pair.first {w' : World} {m : Nat} {v' : Value} {ys : List Value} (h : Pair w B e1 e2 T v1 n1 xs1 v2 n2 xs2 bx cs W) (hne : e2 ≠ e1) (hT : T ≠ e1) (ho : w'.ownsRow B e1 1 v' m ys) (hg : W.grownBy w' v1.ownBlock) : Pair w B e1 e2 T v' m ys v2 n2 xs2 bx cs w' ∧ Keeps e1 W w' := by
  obtain ⟨h1, h2, h3, h4, h5⟩ := h
  have hk := keeps_of h1 hg
  have := hg.size
  exact ⟨⟨ho, own_keeps h2 hk hne, Below.grown h3 hg h4 (fun k hk => (h1.lt k hk).1), by omega, hk _ _ _ _ h5 hT⟩, hk⟩
theorem Pair.second {w' : World} {m : Nat} {v' : Value} {ys : List Value} (h : Pair w B e1 e2 T v1 n1 xs1 v2 n2 xs2 bx cs W) (hne : e1 ≠ e2) (hT : T ≠ e2) (ho : w'.ownsRow B e2 1 v' m ys) (hg : W.grownBy w' v2.ownBlock) : Pair w B e1 e2 T v1 n1 xs1 v' m ys bx cs w' ∧ Keeps e2 W w' := by
  obtain ⟨h1, h2, h3, h4, h5⟩ := h
  have hk := keeps_of h2 hg
  have := hg.size
  exact ⟨⟨own_keeps h1 hk hne, ho, Below.grown h3 hg h4 (fun k hk => (h2.lt k hk).1), by omega, hk _ _ _ _ h5 hT⟩, hk⟩
/-- A slice of one element, out of its block. -/
theorem sl_one {p : Nat} {e : TypeId} {u : Value} (h : W.heap[p]? = some (.cells #[u] e (0, 0))) : Sl W 1 (.slice (some ⟨p, 0, none⟩) 1 1) 1 [u] := by
  refine ⟨_, _, rfl, Nat.le_refl _, by decide, fun h => by simp at h, rfl, fun _ => ⟨p, 0, rfl, fun i x hx => ?_⟩⟩
  match i, hx with
  | 0, hx =>
    have : u = x := by simpa using hx
    subst this
    exact (row_cell 0 u h rfl).1
theorem step_first {P : Program} {ops : Array Oper} {o : Oper} {a : Act} {K : Act → World → Prop} {Q : Exit → Act → World → Prop} {E : Prop} {t : TypeId} {bytes p : Nat} {u : Value} (el : Elem P t e1 1 bytes) (hgd : o.guard = none) (s x : Operand)
    (ho : o.op = .call { callee := .builtin .append, args := #[s, x], argTypes := #[t, t] }) (hs : a.eval s = v1) (hx : a.eval x = .slice (some ⟨p, 0, none⟩) 1 1) (S : Pair w B e1 e2 T v1 n1 xs1 v2 n2 xs2 bx cs W) (hb : W.heap[p]? = some (.cells #[u] e1 (0, 0))) (h1 : u.oneCell' = true)
    (h47 : (n1 + 1) * bytes ≤ 140737488355328) (h63 : n1 + 1 ≤ 9223372036854775807) (hne : e2 ≠ e1) (hT : T ≠ e1)
    (h : ∀ g cap w', Pair w B e1 e2 T (.slice (some ⟨g, 0, none⟩) (n1 + 1) cap) (n1 + 1) (xs1 ++ [u]) v2 n2 xs2 bx cs w' → Keeps e1 W w' → K (a.put o.dst (.slice (some ⟨g, 0, none⟩) (n1 + 1) cap)) w') :
    if Region.wanted o (yielded ops a.tmps) = true then Oper.wp P o a W K Q else E :=
  step_app_lies el hgd s x ho S.1 hs hx (sl_one hb) (by intro y hy; simp at hy; subst hy; exact h1) (by decide) h47 h63 S.2.2.2.1 (fun g cap w' h7 h8 => h g cap w' (S.first hne hT h7 h8).1 (S.first hne hT h7 h8).2)
theorem step_second {P : Program} {ops : Array Oper} {o : Oper} {a : Act} {K : Act → World → Prop} {Q : Exit → Act → World → Prop} {E : Prop} {t : TypeId} {bytes p : Nat} {u : Value} (el : Elem P t e2 1 bytes) (hgd : o.guard = none) (s x : Operand)
    (ho : o.op = .call { callee := .builtin .append, args := #[s, x], argTypes := #[t, t] }) (hs : a.eval s = v2) (hx : a.eval x = .slice (some ⟨p, 0, none⟩) 1 1) (S : Pair w B e1 e2 T v1 n1 xs1 v2 n2 xs2 bx cs W) (hb : W.heap[p]? = some (.cells #[u] e2 (0, 0))) (h1 : u.oneCell' = true)
    (h47 : (n2 + 1) * bytes ≤ 140737488355328) (h63 : n2 + 1 ≤ 9223372036854775807) (hne : e1 ≠ e2) (hT : T ≠ e2)
    (h : ∀ g cap w', Pair w B e1 e2 T v1 n1 xs1 (.slice (some ⟨g, 0, none⟩) (n2 + 1) cap) (n2 + 1) (xs2 ++ [u]) bx cs w' → Keeps e2 W w' → K (a.put o.dst (.slice (some ⟨g, 0, none⟩) (n2 + 1) cap)) w') :
    if Region.wanted o (yielded ops a.tmps) = true then Oper.wp P o a W K Q else E :=
  step_app_lies el hgd s x ho S.2.1 hs hx (sl_one hb) (by intro y hy; simp at hy; subst hy; exact h1) (by decide) h47 h63 S.2.2.2.1 (fun g cap w' h7 h8 => h g cap w' (S.second hne hT h7 h8).1 (S.second hne hT h7 h8).2)
end
theorem infoI64 : (Tryd.prog.info? 2).map (fun i => (i.zero, i.size, i.bytes)) = some (some (.int .i64 0), 1, 8) := by kernel_rfl
theorem elI64 : Elem Tryd.prog 37 2 1 8 := elem_of Tryd.underlying37 infoI64 rfl (by decide)
theorem infoU64 : (Tryd.prog.info? 63).map (fun i => (i.zero, i.size, i.bytes)) = some (some (.int .u64 0), 1, 8) := by kernel_rfl
theorem elU64 : Elem Tryd.prog 46 63 1 8 := elem_of Tryd.underlying46 infoU64 rfl (by decide)
end Go.Proofs.YtbifhmbfmoeofaaDoor.Seal
/-
  The walk of chunk.Seal.
-/
namespace Go.Proofs.YtbifhmbfmoeofaaDoor.Seal
open Go.RowKit Go.Gh Go.Proofs.YtbifhmbfmoeofaaDoor.Bits Go.Proofs.YtbifhmbfmoeofaaDoor.Delta Go.Proofs.YtbifhmbfmoeofaaDoor.Sam Go.Proofs.YtbifhmbfmoeofaaDoor.Smp
set_option linter.unusedVariables false
def SealPost (l : List (List Int)) (w : World) (e : Ending) (w' : World) : Prop := ∃ v, e = .returned (.tuple #[v, .int .i64 0]) ∧ w'.ownsRow w.heap.size 5 1 v (sealF l).length ((sealF l).map (Value.int .u8)) ∧ Below w.heap.size w w'
theorem seal_bad (v : Value) (n : Nat) (l : List (List Int)) (w : World) (hs : Sl w 2 v n (rowCells l)) (hl : l.length = n) (hr : Rows64 2 l) (hn : n ≤ 140737488355328) (c : Int) (hc : sampF l = c) (hc0 : c ≠ 0) :
    Calls Tryd.prog 9 #[v] w fun e w' => e = .returned (.tuple #[.slice none 0 0, .int .i64 c]) ∧ Below w.heap.size w w' := by
  have t1 : (c != 0) = true := by rw [bne_iff_ne]; exact hc0
  go_enter Tryd.func9, Tryd.ntmps9
  go_wp2_with fail
  refine (check_any _ n l _ hs hl hr hn).mono ?_
  rw [hc]
  rintro e w1 ⟨rfl, hb1⟩
  go_wp2_with fail
  go_ret2
  exact ⟨rfl, hb1⟩
theorem ints_one8 (l : List Int) : ∀ u ∈ l.map (Value.int .u8), u.oneCell' = true := by
  intro u hu; simp at hu; obtain ⟨z, _, rfl⟩ := hu; rfl
theorem hD5 {w w5 : World} {bx B : Nat} {o : Obj} (hlt : bx < B) (hb : Below B w w5) (h : w.heap[bx]? = some o) : w5.heap[bx]? = some o := (hb.block bx hlt).trans h
def outK (A B : List Int) : Nat → List Int
  | 0 => []
  | 1 => A
  | _ => A ++ B
theorem ts_ge (l : List Int) : ∀ k, 16 ≤ (tsTo l k).length
  | 0 => by rw [ts_zero, signs_len]; exact Nat.le_refl _
  | 1 => by rw [ts_first, List.length_append, ts_zero, signs_len]; omega
  | k + 2 => by rw [ts_next, List.length_append]; have := ts_ge l (k + 1); omega
theorem ms_ge (l : List Int) : ∀ k, 16 ≤ (msTo l k).1.length
  | 0 => by rw [ms_zero]; show 16 ≤ (signs _ 16).length; rw [signs_len]; exact Nat.le_refl _
  | 1 => by rw [ms_first]; show 16 ≤ (signs _ 16 ++ _).length; rw [List.length_append, signs_len]; omega
  | k + 2 => by
    have h := ms_ge l (k + 1)
    rw [ms_next]
    unfold putX
    repeat' split
    all_goals (simp only [List.length_append]; omega)
theorem lt_of_some' {w : World} {b : Nat} {o : Obj} (h : w.heap[b]? = some o) : b < w.heap.size := (Array.getElem?_eq_some_iff.1 h).1
theorem rel_next {w w2 : World} {l : List (List Int)} {k bx : Nat} {x0 x1 : Int} {v1 v2 : Value} {cs : Array Value} (hk : k < l.length) (hrow : l.getD k [] = [x0, x1])
    (S : Pair w w.heap.size 2 63 65 v1 (k + 1) (((timesF l).take k).map (Value.int .i64) ++ [.int .i64 x0]) v2 (k + 1) (((valsF l).take k).map (Value.int .u64) ++ [.int .u64 (IntKind.u64.wrap x1)]) bx cs w2) :
    w2.ownsRow w.heap.size 2 1 v1 (k + 1) (((timesF l).take (k + 1)).map (Value.int .i64)) ∧ w2.ownsRow w.heap.size 63 1 v2 (k + 1) (((valsF l).take (k + 1)).map (Value.int .u64)) ∧ Below w.heap.size w w2 := by
  obtain ⟨h1, h2, h3, _⟩ := S
  rw [times_snoc hk, vals_snoc hk, hrow, List.map_append, List.map_append]
  exact ⟨h1, h2, h3⟩
set_option maxHeartbeats 8000000 in
set_option maxRecDepth 100000 in
theorem seal_any (v : Value) (n : Nat) (l : List (List Int)) (w : World) (hs : Sl w 2 v n (rowCells l)) (hl : l.length = n) (hr : Rows64 2 l) (hc : sampF l = 0) (hT : Table w) (hX : Xor.TabX w) (h2 : 2 ≤ w.heap.size) :
    Calls Tryd.prog 9 #[v] w (SealPost l w) := by
  have hn : n ≤ 1000 := by rw [← hl]; exact fault_small hc
  obtain ⟨ao, c, rfl, hnc, hcc, _⟩ := hs.shape
  have HS := Lib.hid hs
  have HL := Lib.hid hl
  have HR := Lib.hid hr
  have HC := Lib.hid hc
  have HT := Lib.hid hT
  have HX := Lib.hid hX
  have HH2 := Lib.hid h2
  clear hs hl hr hc hT hX h2
  go_enter Tryd.func9, Tryd.ntmps9
  go_wp2_with fail
  refine (check_any _ n l _ HS.out HL.out HR.out (by omega)).mono ?_
  rw [HC.out]
  rintro e w1 ⟨rfl, hb1⟩
  have HB1 := Lib.hid hb1
  clear hb1
  go_wp2_with fail
  go_loopw [5, 6, 8, 23] (fun u1 u2 _ i wx => ∃ k : Nat, k ≤ n ∧ i = .int .i64 k ∧ Hid (wx.ownsRow w.heap.size 2 1 u1 k (((timesF l).take k).map (Value.int .i64)) ∧ wx.ownsRow w.heap.size 63 1 u2 k (((valsF l).take k).map (Value.int .u64)) ∧ Below w.heap.size w wx)) (fun _ _ _ i _ => n - (intOf i).toNat)
  case atStart => exact ⟨0, by omega, rfl, Lib.hid ⟨by simpa using World.ownsRow_nil _ _ _ _, by simpa using World.ownsRow_nil _ _ _ _, HB1.out⟩⟩
  case round =>
    obtain ⟨k, hk, rfl, HREL⟩ := hrel
    obtain ⟨hO1, hO2, hB⟩ := HREL.out
    by_cases hlt : k < n
    · obtain ⟨b, off, rfl, hrl, hcell⟩ := (HS.out.below hB).rowk HL.out HR.out.k hlt
      obtain ⟨x0, x1, hrow⟩ := row2 (l.getD k []) hrl
      have c0 : wr.cell? ⟨b, off + k * 2, none⟩ = some (.int .i64 x0) := by have := hcell 0 (by decide); rw [hrow] at this; exact this
      have c1 : wr.cell? ⟨b, off + k * 2 + 1, none⟩ = some (.int .i64 x1) := by have := hcell 1 (by decide); rw [hrow] at this; exact this
      have HROW := Lib.hid hrow
      have hsz := hB.size
      obtain ⟨bx, hbx⟩ : ∃ bx, wr.heap.size = bx := ⟨_, rfl⟩
      obtain ⟨y1, hy1⟩ : ∃ y, IntKind.u64.wrap x1 = y := ⟨_, rfl⟩
      have HY := Lib.hid hy1
      obtain ⟨o1, k1, rfl, _⟩ := own_shape hO1
      obtain ⟨o2, k2, rfl, _⟩ := own_shape hO2
      have hP : Pair w w.heap.size 2 63 65 (.slice o1 k k1) k (((timesF l).take k).map (Value.int .i64)) (.slice o2 k k2) k (((valsF l).take k).map (Value.int .u64)) bx #[.int .i64 x0, .int .i64 x1] (wr.alloc (.cells #[.int .i64 x0, .int .i64 x1] 65)) :=
        ⟨hO1.alloc _, hO2.alloc _, hB.alloc hsz _, by simp; omega, by rw [← hbx]; exact heap_alloc_new wr _⟩
      have HP0 := Lib.hid hP
      clear hP hO1 hO2 hB hcell hrow hrl hy1
      go_upto_region 9 with (fail)
      generalize wr.alloc (.cells #[.int .i64 x0, .int .i64 x1] 65) = wa at *
      have S0 := HP0.out.drew
      have HKL : Hid (k < l.length) := Lib.hid (by rw [HL.out]; exact hlt)
      have hcells := HP0.out.cells
      obtain ⟨d0, d1⟩ := hcells
      clear HP0 c0 c1 hbx HREL
      go_region_held3 (fun w' => w'.cell? ⟨bx, 0, none⟩ = some (.int .i64 x0) ∧ w'.cell? ⟨bx, 1, none⟩ = some (.int .i64 x1)) (first | (with_reducible exact ⟨d0, d1⟩) | (with_reducible exact S2.cells) | (with_reducible exact S1.cells) | (with_reducible exact (S1.alloc _).cells) | (with_reducible exact (S0.alloc _).cells) | (with_reducible exact ((S0.alloc _).alloc _).cells) | go_keep) (first
        | (refine step_first elI64 rfl _ _ rfl rfl rfl (by first | exact S0.alloc _ | exact (S0.alloc _).alloc _) (by first | exact heap_alloc_new _ _ | exact two_first _ _ _ | exact two_second _ _ _) (by rfl) (by omega) (by omega) (by decide) (by decide) ?_; intro g1 cap1 w1' S1 K1)
        | (refine step_second elU64 rfl _ _ rfl rfl rfl (by first | exact S0.alloc _ | exact (S0.alloc _).alloc _) (by first | exact heap_alloc_new _ _ | exact two_first _ _ _ | exact two_second _ _ _) (by rfl) (by omega) (by omega) (by decide) (by decide) ?_; intro g1 cap1 w1' S1 K1)
        | (refine step_first elI64 rfl _ _ rfl rfl rfl (by first | exact S1 | exact S1.alloc _) (by first | exact heap_alloc_new _ _ | exact K1 _ _ _ _ (two_first _ _ _) (by decide) | exact K1 _ _ _ _ (two_second _ _ _) (by decide)) (by rfl) (by omega) (by omega) (by decide) (by decide) ?_; intro g2 cap2 w2 S2 K2)
        | (refine step_second elU64 rfl _ _ rfl rfl rfl (by first | exact S1 | exact S1.alloc _) (by first | exact heap_alloc_new _ _ | exact K1 _ _ _ _ (two_first _ _ _) (by decide) | exact K1 _ _ _ _ (two_second _ _ _) (by decide)) (by rfl) (by omega) (by omega) (by decide) (by decide) ?_; intro g2 cap2 w2 S2 K2))
      all_goals
        have HR2 := rel_next HKL.out HROW.out S2
        clear S2 K2 S1 K1 S0
        go_wp2_with fail
        go_roundw
        case rel => exact ⟨k + 1, by omega, by go_num, Lib.hid HR2⟩
        case measure => simp [intOf]; omega
    · obtain rfl : k = n := by omega
      obtain ⟨hO1, hO2, hB⟩ := HREL.out
      have HTL : Hid ((timesF l).length = k) := Lib.hid (by unfold timesF; rw [List.length_map]; exact HL.out)
      have HVL : Hid ((valsF l).length = k) := Lib.hid (by unfold valsF; rw [List.length_map]; exact HL.out)
      rw [List.take_of_length_le (by rw [HTL.out]; exact Nat.le_refl _)] at hO1
      rw [List.take_of_length_le (by rw [HVL.out]; exact Nat.le_refl _)] at hO2
      have HO2 := Lib.hid hO2
      have HS1 := Lib.hid (own_sl hO1)
      have HB := Lib.hid hB
      have HTW := Lib.hid (timesF_wf HR.out)
      have HVW := Lib.hid (valsF_wf l)
      clear hO1 hO2 hB HREL
      go_wp2_with fail
      refine (Delta.pack_any _ k (timesF l) _ HS1.out HTL.out HTW.out hn (HT.out.below HB.out)).mono ?_
      rintro e w2 ⟨v1, rfl, hown1, hb2⟩
      have hp1 := Go.Gh.ts_len (timesF l) k
      obtain ⟨s1, hs1⟩ : ∃ s, tsTo (timesF l) k = s := ⟨_, rfl⟩
      have HS1E := Lib.hid hs1
      rw [hs1] at hown1 hp1 ⊢
      have HV1 := Lib.hid (own_sl hown1)
      obtain ⟨o1, c1, rfl, hpc1, _⟩ := own_shape hown1
      obtain ⟨p1, hp1l⟩ : ∃ p, (pack s1).length = p := ⟨_, rfl⟩
      have HP1 := Lib.hid hp1l
      rw [hp1l] at HV1 hpc1 ⊢
      have HB2 := Lib.hid (HB.out.trans (hb2.mono HB.out.size))
      have HO22 := Lib.hid (own_sl (own_below HO2.out hb2))
      have hszw := HB2.out.size
      have hw2 := HH2.out
      clear hown1 hb2 hs1 hp1l
      go_upto_region 12 with (fail)
      have hbA : Below w2.heap.size w2 (w2.alloc (.cells #[.slice o1 p1 c1, .int .i64 s1.length] 39)) := (Below.refl _ _).alloc (Nat.le_refl _) _
      have hA := heap_alloc_new w2 (.cells #[.slice o1 p1 c1, .int .i64 s1.length] 39)
      have HV1A := Lib.hid (HV1.out.below hbA)
      have HBA := Lib.hid (HB2.out.trans (hbA.mono hszw))
      have HO2A := Lib.hid (HO22.out.below hbA)
      obtain ⟨b1, hb1e⟩ : ∃ b, w2.heap.size = b := ⟨_, rfl⟩
      rw [hb1e] at hA hbA hszw ⊢
      generalize w2.alloc (.cells #[.slice o1 p1 c1, .int .i64 s1.length] 39) = wA at *
      have hltA := lt_of_some' hA
      clear HV1 HO22 hbA
      go_wp2_with fail
      refine (Xor.pack_any _ k (valsF l) _ HO2A.out HVL.out HVW.out hn (HX.out.below (HBA.out.mono hw2)) (Nat.le_trans hw2 HBA.out.size)).mono ?_
      rintro e w3 ⟨v2, rfl, hown2, hb3⟩
      have hp2 := Go.Gh.ms_len (valsF l) k
      obtain ⟨s2, hs2⟩ : ∃ s, (msTo (valsF l) k).1 = s := ⟨_, rfl⟩
      have HS2E := Lib.hid hs2
      rw [hs2] at hown2 hp2 ⊢
      have HV2 := Lib.hid (own_sl hown2)
      obtain ⟨o2, c2, rfl, hpc2, _⟩ := own_shape hown2
      obtain ⟨p2, hp2l⟩ : ∃ p, (pack s2).length = p := ⟨_, rfl⟩
      have HP2 := Lib.hid hp2l
      rw [hp2l] at HV2 hpc2 ⊢
      have HV13 := Lib.hid (HV1A.out.below hb3)
      have HB3 := Lib.hid (HBA.out.trans (hb3.mono HBA.out.size))
      have hA3 := (hb3.block b1 hltA).trans hA
      have hlt3 := lt_of_some' hA3
      obtain ⟨x0, x1⟩ : w3.cell? ⟨b1, 0, none⟩ = some (.slice o1 p1 c1) ∧ w3.cell? ⟨b1, 1, none⟩ = some (.int .i64 s1.length) := ⟨(row_cell 0 _ hA3 rfl).1, (row_cell 1 _ hA3 rfl).1⟩
      have y0 := (Below.heap_alloc w3 (.cells #[.slice o2 p2 c2, .int .i64 s2.length] 39) b1 hlt3).trans hA3
      clear hown2 hb3 hs2 hp2l hA
      go_upto_region 14 with (fail)
      have hbB : Below w3.heap.size w3 (w3.alloc (.cells #[.slice o2 p2 c2, .int .i64 s2.length] 39)) := (Below.refl _ _).alloc (Nat.le_refl _) _
      have hB2 := heap_alloc_new w3 (.cells #[.slice o2 p2 c2, .int .i64 s2.length] 39)
      obtain ⟨b2, hb2e⟩ : ∃ b, w3.heap.size = b := ⟨_, rfl⟩
      have HV1B := Lib.hid (HV13.out.below hbB)
      have HV2B := Lib.hid (HV2.out.below hbB)
      have HBB := Lib.hid (HB3.out.trans (hbB.mono HB3.out.size))
      rw [hb2e] at hB2 ⊢
      clear x0 x1 HV13 HV2 hbB
      generalize w3.alloc (.cells #[.slice o2 p2 c2, .int .i64 s2.length] 39) = wB at *
      obtain ⟨x0, x1⟩ : wB.cell? ⟨b1, 0, none⟩ = some (.slice o1 p1 c1) ∧ wB.cell? ⟨b1, 1, none⟩ = some (.int .i64 s1.length) := ⟨(row_cell 0 _ y0 rfl).1, (row_cell 1 _ y0 rfl).1⟩
      obtain ⟨x2, x3⟩ : wB.cell? ⟨b2, 0, none⟩ = some (.slice o2 p2 c2) ∧ wB.cell? ⟨b2, 1, none⟩ = some (.int .i64 s2.length) := ⟨(row_cell 0 _ hB2 rfl).1, (row_cell 1 _ hB2 rfl).1⟩
      have hbC : Below wB.heap.size wB (wB.alloc (.cells #[.slice o1 p1 c1, .int .i64 s1.length, .slice o2 p2 c2, .int .i64 s2.length] 39)) := (Below.refl _ _).alloc (Nat.le_refl _) _
      have hC := heap_alloc_new wB (.cells #[.slice o1 p1 c1, .int .i64 s1.length, .slice o2 p2 c2, .int .i64 s2.length] 39)
      obtain ⟨b3, hb3e⟩ : ∃ b, wB.heap.size = b := ⟨_, rfl⟩
      have HBC := Lib.hid (HBB.out.trans (hbC.mono HBB.out.size))
      have HV1C := Lib.hid (HV1B.out.below hbC)
      have HV2C := Lib.hid (HV2B.out.below hbC)
      clear y0 hA3 hB2 HV1B HV2B hbC
      go_wp2_with fail
      rw [hb3e] at hC
      generalize wB.alloc (.cells #[.slice o1 p1 c1, .int .i64 s1.length, .slice o2 p2 c2, .int .i64 s2.length] 39) = wC at *
      have HCB := Lib.hid hC
      have hltC := lt_of_some' hC
      obtain ⟨A, hAe⟩ : ∃ A, putI 9 (s1.length : Int) ++ pack s1 = A := ⟨_, rfl⟩
      obtain ⟨B2, hB2e⟩ : ∃ A, putI 9 (s2.length : Int) ++ pack s2 = A := ⟨_, rfl⟩
      have HFIN : Hid (sealF l = A ++ B2) := Lib.hid (by unfold sealF sealP; rw [HL.out, HS1E.out, HS2E.out, hAe, hB2e])
      have HEL : Hid (∀ j, j < 2 → ∃ (o : Option Addr) (p c : Nat) (s : List Bool), wC.cell? ⟨b3, j * 2, none⟩ = some (.slice o p c) ∧ wC.cell? ⟨b3, j * 2 + 1, none⟩ = some (.int .i64 s.length) ∧ Sl wC 1 (.slice o p c) p ((pack s).map (Value.int .u8)) ∧ (pack s).length = p ∧ s.length ≤ 90000 ∧ 16 ≤ s.length ∧ outK A B2 (j + 1) = outK A B2 j ++ (putI 9 (s.length : Int) ++ pack s)) := Lib.hid (by
        intro j hj
        rcases (show j = 0 ∨ j = 1 by omega) with rfl | rfl
        · refine ⟨o1, p1, c1, s1, (row_cell 0 _ hC rfl).1, (row_cell 1 _ hC rfl).1, HV1C.out, HP1.out, by omega, ?_, by rw [hAe]; rfl⟩
          rw [← HS1E.out]
          exact ts_ge (timesF l) k
        · refine ⟨o2, p2, c2, s2, (row_cell 2 _ hC rfl).1, (row_cell 3 _ hC rfl).1, HV2C.out, HP2.out, by omega, ?_, by rw [hB2e]; rfl⟩
          rw [← HS2E.out]
          exact ms_ge (valsF l) k)
      clear x0 x1 x2 x3 hC hAe hB2e HV1C HV2C
      go_loopw [13, 53] (fun u i wx => ∃ (j : Nat), j ≤ 2 ∧ i = .int .i64 j ∧ Hid (wx.ownsRow wC.heap.size 5 1 u (outK A B2 j).length ((outK A B2 j).map (Value.int .u8))) ∧ Hid (Below wC.heap.size wC wx) ∧ Hid ((outK A B2 j).length ≤ 100000 * j)) (fun _ i _ => 2 - (intOf i).toNat)
      case atStart => exact ⟨0, by omega, rfl, Lib.hid (World.ownsRow_nil _ _ _ _), Lib.hid (Below.refl _ _), Lib.hid (by simp [outK])⟩
      case round =>
        obtain ⟨j, hj, rfl, HO, HBW, HLE⟩ := hrel
        by_cases hlt2 : j < 2
        · obtain ⟨o, p, c', s, e0, e1, hsl, hpl, hs9, hs16, hout⟩ := HEL.out j hlt2
          have q0 := (HBW.out.cell (p := ⟨b3, j * 2, none⟩) hltC).trans e0
          have q1 := (HBW.out.cell (p := ⟨b3, j * 2 + 1, none⟩) hltC).trans e1
          have hp0 : 0 < p := by rw [← hpl, pack_len]; omega
          have hp9 : p ≤ 20000 := by rw [← hpl, pack_len]; omega
          have hle := HLE.out
          obtain ⟨m, hm⟩ : ∃ m, (outK A B2 j).length = m := ⟨_, rfl⟩
          obtain ⟨N, hN⟩ : ∃ N, s.length = N := ⟨_, rfl⟩
          have hui : IntKind.u64.wrap (N : Int) = N := by rw [IntKind.wrap_u64]; omega
          have hq := putI_len 9 (N : Int)
          obtain ⟨q, hqe⟩ : ∃ q, (putI 9 (N : Int)).length = q := ⟨_, rfl⟩
          have HO1 := HO.out
          rw [hm] at hle HO1
          rw [hN] at q1 hs9 hs16 hout
          rw [hqe] at hq
          have HM := Lib.hid hm
          have HQ := Lib.hid hqe
          have HPL := Lib.hid hpl
          have HOUT := Lib.hid hout
          obtain ⟨uo, uc, rfl, _⟩ := own_shape HO1
          have hszr := HBW.out.size
          obtain ⟨bx, hbx⟩ : ∃ bx, wr.heap.size = bx := ⟨_, rfl⟩
          have hbD : Below wr.heap.size wr (wr.alloc (.cells #[.slice o p c', .int .i64 N] 39)) := (Below.refl _ _).alloc (Nat.le_refl _) _
          have hD := heap_alloc_new wr (.cells #[.slice o p c', .int .i64 N] 39)
          have HD1 : Hid (Below wC.heap.size wC (wr.alloc (.cells #[.slice o p c', .int .i64 N] 39)).drew) := Lib.hid ((HBW.out.trans (hbD.mono hszr)).drew)
          have HO2 : Hid ((wr.alloc (.cells #[.slice o p c', .int .i64 N] 39)).drew.ownsRow wC.heap.size 5 1 (.slice uo m uc) m ((outK A B2 j).map (Value.int .u8))) := Lib.hid (own_below HO1 hbD).drew
          rw [hbx] at hD
          have HSL := Lib.hid hsl
          clear e0 e1 hsl hpl hout hm hqe HO HO1 hbD HLE
          go_upto_region 17 with (fail)
          generalize wr.alloc (.cells #[.slice o p c', .int .i64 N] 39) = wD at *
          obtain ⟨x0, x1⟩ : wD.cell? ⟨bx, 0, none⟩ = some (.slice o p c') ∧ wD.cell? ⟨bx, 1, none⟩ = some (.int .i64 N) := ⟨(row_cell 0 _ hD rfl).1, (row_cell 1 _ hD rfl).1⟩
          have hltD := lt_of_some' hD
          have hszD := HD1.out.size
          clear q0 q1 hN hbx
          go_region_held3 (fun w' => w'.cell? ⟨bx, 0, none⟩ = some (.slice o p c') ∧ w'.cell? ⟨bx, 1, none⟩ = some (.int .i64 N)) (first | (with_reducible exact ⟨x0, x1⟩) | (with_reducible exact ⟨y0, y1⟩) | (with_reducible exact ⟨z0, z1⟩) | (with_reducible exact ⟨t0, t1⟩) | go_keep) (first
            | (go_at_call 31; refine (put_any N (by omega) (by omega) _).mono ?_; rintro e w5 ⟨pv, rfl, hpv, hb5⟩; have HO5 := own_below HO2.out hb5; have HP5 := own_sl hpv; have HD5 := hD5 hltD hb5 hD; obtain ⟨y0, y1⟩ : w5.cell? ⟨bx, 0, none⟩ = some (.slice o p c') ∧ w5.cell? ⟨bx, 1, none⟩ = some (.int .i64 N) := ⟨(row_cell 0 _ HD5 rfl).1, (row_cell 1 _ HD5 rfl).1⟩; have hb5C := HD1.out.trans (hb5.mono hszD); have hsz5 := hb5C.size; have hne5 := own_block_ne HO5 HD5 (by decide))
            | (refine step_app_lies elU8 rfl _ _ rfl HO6 rfl rfl HS6 (ints_one8 _) hp0 (by omega) (by omega) hsz6 ?_; intro g7 cap7 w7 HO7 hg7; have hb7C := Below.grown hb6C hg7 hsz6 (fun k hk => (HO6.lt k hk).1); obtain ⟨t0, t1⟩ : w7.cell? ⟨bx, 0, none⟩ = some (.slice o p c') ∧ w7.cell? ⟨bx, 1, none⟩ = some (.int .i64 N) := by (have h := grown_block2 hg7 hne6 HD6; exact ⟨(row_cell 0 _ h rfl).1, (row_cell 1 _ h rfl).1⟩))
            | (refine step_app_lies elU8 rfl _ _ rfl HO5 rfl rfl HP5 (ints_one8 _) (by rw [HQ.out]; omega) (by rw [HQ.out]; omega) (by rw [HQ.out]; omega) hsz5 ?_; rw [HQ.out]; intro g6 cap6 w6 HO6 hg6; have HD6 := grown_block2 hg6 hne5 HD5; obtain ⟨z0, z1⟩ : w6.cell? ⟨bx, 0, none⟩ = some (.slice o p c') ∧ w6.cell? ⟨bx, 1, none⟩ = some (.int .i64 N) := ⟨(row_cell 0 _ HD6 rfl).1, (row_cell 1 _ HD6 rfl).1⟩; have hb6C := Below.grown hb5C hg6 hsz5 (fun k hk => (HO5.lt k hk).1); have hsz6 := hb6C.size; have hne6 := own_block_ne HO6 HD6 (by decide); have HS6 := HSL.out.below hb6C))
          have HLN : Hid ((outK A B2 (j + 1)).length = m + q + p) := Lib.hid (by rw [HOUT.out, List.length_append, List.length_append, HM.out, HQ.out, HPL.out]; omega)
          have HF7 : Hid (w7.ownsRow wC.heap.size 5 1 (.slice (some ⟨g7, 0, none⟩) (m + q + p) cap7) (outK A B2 (j + 1)).length ((outK A B2 (j + 1)).map (Value.int .u8))) := Lib.hid (by
            rw [HLN.out, HOUT.out, List.map_append, List.map_append, ← List.append_assoc]
            exact HO7)
          have HB7 := Lib.hid hb7C
          have HLE7 : Hid ((outK A B2 (j + 1)).length ≤ 100000 * (j + 1)) := Lib.hid (by rw [HLN.out]; omega)
          clear hpv hb5 HO5 HP5 HD5 y0 y1 hb5C hsz5 hne5 HO6 hg6 HD6 z0 z1 hb6C hsz6 hne6 HS6 HO7 hg7 hb7C t0 t1
          go_wp2_with fail
          go_roundw
          case rel => exact ⟨j + 1, by omega, by go_num, HF7, HB7, HLE7⟩
          case measure => simp [intOf]; omega
        · obtain rfl : j = 2 := by omega
          have HO' := HO.out
          have HF : Hid (wr.ownsRow w.heap.size 5 1 u13 (sealF l).length ((sealF l).map (Value.int .u8))) := Lib.hid (by rw [HFIN.out]; exact own_mono HO' HBC.out.size)
          clear HO'
          go_wp2_with fail
          go_ret2
          exact ⟨_, rfl, HF.out, HBC.out.trans (HBW.out.mono HBC.out.size)⟩
end Go.Proofs.YtbifhmbfmoeofaaDoor.Seal
/-
  The walk of Sealed.
-/
namespace Go.Proofs.YtbifhmbfmoeofaaDoor.Seal
open Go.RowKit Go.Gh Go.Proofs.YtbifhmbfmoeofaaDoor.Bits Go.Proofs.YtbifhmbfmoeofaaDoor.Delta Go.Proofs.YtbifhmbfmoeofaaDoor.Sam Go.Proofs.YtbifhmbfmoeofaaDoor.Smp
set_option linter.unusedVariables false
theorem sl_keepB {w w7 w8 : World} {n : Nat} {v : Value} {xs : List Value} (_ : Sl w7 1 v n xs) (h : Sl w 1 v n xs) (hb7 : Below w.heap.size w w7) (hb8 : Below w.heap.size w7 w8) : Sl w8 1 v n xs := h.below (hb7.trans hb8)
theorem Sl.drew {w : World} {n size : Nat} {v : Value} {xs : List Value} (h : Sl w size v n xs) : Sl w.drew size v n xs := h.below ((Below.refl _ _).drew)
def SdPost (l : List (List Int)) (w : World) (e : Ending) (w' : World) : Prop := ∃ v, e = .returned v ∧ w'.ownsRow w.heap.size 5 1 v (sealF l).length ((sealF l).map (Value.int .u8)) ∧ Below w.heap.size w w'
set_option maxHeartbeats 8000000 in
set_option maxRecDepth 100000 in
theorem sealed_any (v : Value) (n : Nat) (l : List (List Int)) (w : World) (hs : Sl w 2 v n (rowCells l)) (hl : l.length = n) (hr : Rows64 2 l) (hn : n ≤ 1000) :
    Calls Tryd.prog 13 #[v] w (SdPost l w) := by
  obtain ⟨ao, c, rfl, hnc, hcc, _⟩ := hs.shape
  have HS := Lib.hid hs
  have HL := Lib.hid hl
  have HR := Lib.hid hr
  clear hs hl hr
  go_enter Tryd.func13, Tryd.ntmps13
  go_wp2_with fail
  go_loopw [3, 4, 12] (fun u1 u2 i wx => ∃ k : Nat, k ≤ n ∧ i = .int .i64 k ∧ Hid (wx.ownsRow w.heap.size 2 1 u1 k (((timesF l).take k).map (Value.int .i64)) ∧ wx.ownsRow w.heap.size 63 1 u2 k (((valsF l).take k).map (Value.int .u64)) ∧ Below w.heap.size w wx)) (fun _ _ i _ => n - (intOf i).toNat)
  case atStart => exact ⟨0, by omega, rfl, Lib.hid ⟨by simpa using World.ownsRow_nil _ _ _ _, by simpa using World.ownsRow_nil _ _ _ _, Below.refl _ _⟩⟩
  case round =>
    obtain ⟨k, hk, rfl, HREL⟩ := hrel
    obtain ⟨hO1, hO2, hB⟩ := HREL.out
    by_cases hlt : k < n
    · obtain ⟨b, off, rfl, hrl, hcell⟩ := (HS.out.below hB).rowk HL.out HR.out.k hlt
      obtain ⟨x0, x1, hrow⟩ := row2 (l.getD k []) hrl
      have c0 : wr.cell? ⟨b, off + k * 2, none⟩ = some (.int .i64 x0) := by have := hcell 0 (by decide); rw [hrow] at this; exact this
      have c1 : wr.cell? ⟨b, off + k * 2 + 1, none⟩ = some (.int .i64 x1) := by have := hcell 1 (by decide); rw [hrow] at this; exact this
      have HROW := Lib.hid hrow
      have hsz := hB.size
      obtain ⟨bx, hbx⟩ : ∃ bx, wr.heap.size = bx := ⟨_, rfl⟩
      obtain ⟨o1, k1, rfl, _⟩ := own_shape hO1
      obtain ⟨o2, k2, rfl, _⟩ := own_shape hO2
      have hP : Pair w w.heap.size 2 63 65 (.slice o1 k k1) k (((timesF l).take k).map (Value.int .i64)) (.slice o2 k k2) k (((valsF l).take k).map (Value.int .u64)) bx #[.int .i64 x0, .int .i64 x1] (wr.alloc (.cells #[.int .i64 x0, .int .i64 x1] 65)) :=
        ⟨hO1.alloc _, hO2.alloc _, hB.alloc hsz _, by simp; omega, by rw [← hbx]; exact heap_alloc_new wr _⟩
      have HP0 := Lib.hid hP
      have HKL : Hid (k < l.length) := Lib.hid (by rw [HL.out]; exact hlt)
      clear hP hO1 hO2 hB hcell hrow hrl
      go_upto_region 6 with (fail)
      generalize wr.alloc (.cells #[.int .i64 x0, .int .i64 x1] 65) = wa at *
      have S0 := HP0.out
      obtain ⟨d0, d1⟩ := S0.cells
      have hA := (S0.alloc (.cells #[.int .i64 x0] 2))
      have hsl := sl_one (heap_alloc_new wa (.cells #[.int .i64 x0] 2))
      have hown := hA.1
      have hszA := hA.2.2.2.1
      clear HP0 c0 c1 hbx HREL
      go_wp2_with (at_builtin; refine wp_app_lies elI64 rfl _ _ rfl hown rfl rfl hsl (by intro y hy; simp at hy; subst hy; rfl) (by decide) ?c1 ?c2 hszA ?_)
      case c1 => omega
      case c2 => omega
      intro g1 cap1 w1 hown1 hg1
      obtain ⟨S1, K1⟩ := hA.first (by decide) (by decide) hown1 hg1
      obtain ⟨y0, y1⟩ := S1.cells
      have hA1 := (S1.alloc (.cells #[.int .u64 (IntKind.u64.wrap x1)] 63))
      have hsl1 := sl_one (heap_alloc_new w1 (.cells #[.int .u64 (IntKind.u64.wrap x1)] 63))
      have hown2 := hA1.2.1
      have hszA1 := hA1.2.2.2.1
      clear hA hsl hown hszA d0 d1 hown1 hg1 K1
      go_wp2_with (at_builtin; refine wp_app_lies elU64 rfl _ _ rfl hown2 rfl rfl hsl1 (by intro y hy; simp at hy; subst hy; rfl) (by decide) ?c3 ?c4 hszA1 ?_)
      case c3 => omega
      case c4 => omega
      intro g2 cap2 w2 hown3 hg2
      obtain ⟨S2, K2⟩ := hA1.second (by decide) (by decide) hown3 hg2
      have S2' : Pair w w.heap.size 2 63 65 (.slice (some ⟨g1, 0, none⟩) (k + 1) cap1) (k + 1) (((timesF l).take k).map (Value.int .i64) ++ [.int .i64 x0]) (.slice (some ⟨g2, 0, none⟩) (k + 1) cap2) (k + 1) (((valsF l).take k).map (Value.int .u64) ++ [.int .u64 (IntKind.u64.wrap x1)]) bx #[.int .i64 x0, .int .i64 x1] w2 := by rw [List.map_take, List.map_take]; exact S2
      have HR2 := rel_next HKL.out HROW.out S2'
      clear S2' S2 K2 S1 S0 hA1 hsl1 hown2 hszA1 hown3 hg2 y0 y1
      go_wp2_with fail
      go_roundw
      case rel => exact ⟨k + 1, by omega, by go_num, Lib.hid HR2⟩
      case measure => simp [intOf]; omega
    · obtain rfl : k = n := by omega
      have HTL : Hid ((timesF l).length = k) := Lib.hid (by unfold timesF; rw [List.length_map]; exact HL.out)
      have HVL : Hid ((valsF l).length = k) := Lib.hid (by unfold valsF; rw [List.length_map]; exact HL.out)
      rw [List.take_of_length_le (by rw [HTL.out]; exact Nat.le_refl _)] at hO1
      rw [List.take_of_length_le (by rw [HVL.out]; exact Nat.le_refl _)] at hO2
      have HS2 := Lib.hid (own_sl hO2)
      have HS1 := Lib.hid (own_sl hO1)
      have HB := Lib.hid hB
      have HTW := Lib.hid (timesF_wf HR.out)
      have HVW := Lib.hid (valsF_wf l)
      clear hO1 hO2 hB HREL
      have hp1 := Go.Gh.ts_len (timesF l) k
      have hg1 := ts_ge (timesF l) k
      obtain ⟨s1, hs1⟩ : ∃ s, tsTo (timesF l) k = s := ⟨_, rfl⟩
      have HS1E := Lib.hid hs1
      have hp2 := Go.Gh.ms_len (valsF l) k
      have hg2 := ms_ge (valsF l) k
      obtain ⟨s2, hs2⟩ : ∃ s, (msTo (valsF l) k).1 = s := ⟨_, rfl⟩
      have HS2E := Lib.hid hs2
      rw [hs1] at hp1 hg1
      rw [hs2] at hp2 hg2
      clear hs1 hs2
      go_wp2_with fail
      refine (Delta.timesigns_any _ k (timesF l) _ HS1.out HTL.out HTW.out hn).mono ?_
      rw [HS1E.out]
      rintro e w2 ⟨rfl, hb2⟩
      have HB2 := Lib.hid (HB.out.trans (hb2.mono HB.out.size))
      have HS22 := Lib.hid (HS2.out.below hb2)
      clear hb2
      go_wp2_with fail
      refine (packed_any s1 (by omega) _).mono ?_
      rintro e w3 ⟨v1, rfl, hown1, hb3⟩
      have HV1 := Lib.hid (own_sl hown1)
      obtain ⟨o1, c1, rfl, hpc1, _⟩ := own_shape hown1
      have HB3 := Lib.hid (HB2.out.trans (hb3.mono HB2.out.size))
      have HS23 := Lib.hid (HS22.out.below hb3)
      clear hb3 hown1
      go_wp2_with fail
      refine (Xor.measuresigns_any _ k (valsF l) _ HS23.out HVL.out HVW.out hn).mono ?_
      rw [HS2E.out]
      rintro e w4 ⟨rfl, hb4⟩
      have HB4 := Lib.hid (HB3.out.trans (hb4.mono HB3.out.size))
      have HV14 := Lib.hid (HV1.out.below hb4)
      clear hb4
      go_wp2_with fail
      refine (packed_any s2 (by omega) _).mono ?_
      rintro e w5 ⟨v2, rfl, hown2, hb5⟩
      have HV2 := Lib.hid (own_sl hown2)
      obtain ⟨o2, c2, rfl, hpc2, _⟩ := own_shape hown2
      have HB5 := Lib.hid (HB4.out.trans (hb5.mono HB4.out.size))
      have HV15 := Lib.hid (HV14.out.below hb5)
      obtain ⟨p1, hp1l⟩ : ∃ p, (pack s1).length = p := ⟨_, rfl⟩
      obtain ⟨p2, hp2l⟩ : ∃ p, (pack s2).length = p := ⟨_, rfl⟩
      obtain ⟨N1, hN1⟩ : ∃ p, s1.length = p := ⟨_, rfl⟩
      obtain ⟨N2, hN2⟩ : ∃ p, s2.length = p := ⟨_, rfl⟩
      have HP1 := Lib.hid hp1l
      have HP2 := Lib.hid hp2l
      have HN1 := Lib.hid hN1
      have HN2 := Lib.hid hN2
      have hpp1 : 0 < p1 ∧ p1 ≤ 20000 := by rw [← hp1l, pack_len]; omega
      have hpp2 : 0 < p2 ∧ p2 ≤ 20000 := by rw [← hp2l, pack_len]; omega
      rw [hp1l] at HV15 hpc1 ⊢
      rw [hp2l] at HV2 hpc2 ⊢
      rw [hN1] at hp1 hg1 ⊢
      rw [hN2] at hp2 hg2 ⊢
      clear hp1l hp2l hN1 hN2 hown2 hb5
      go_upto_region 10 with (fail)
      have q1 := two_first w5 (.cells #[.slice o1 p1 c1, .int .i64 N1] 39) (.cells #[.slice o2 p2 c2, .int .i64 N2] 39)
      have q2 := two_second w5 (.cells #[.slice o1 p1 c1, .int .i64 N1] 39) (.cells #[.slice o2 p2 c2, .int .i64 N2] 39)
      have hb6 : Below w5.heap.size w5 ((w5.alloc (.cells #[.slice o1 p1 c1, .int .i64 N1] 39)).alloc (.cells #[.slice o2 p2 c2, .int .i64 N2] 39)) := ((Below.refl _ _).alloc (Nat.le_refl _) _).alloc (by simp) _
      have HV16 := Lib.hid (Sl.drew (HV15.out.below hb6))
      have HV26 := Lib.hid (Sl.drew (HV2.out.below hb6))
      have HB6 := Lib.hid ((HB5.out.trans (hb6.mono HB5.out.size)).drew)
      obtain ⟨b1, hb1e⟩ : ∃ b, w5.heap.size = b := ⟨_, rfl⟩
      obtain ⟨b2, hb2e⟩ : ∃ b, b1 + 1 = b := ⟨_, rfl⟩
      rw [hb1e, hb2e]
      rw [hb1e] at q1 q2
      rw [hb2e] at q2
      clear hb6 HV15 HV2
      generalize ((w5.alloc (.cells #[.slice o1 p1 c1, .int .i64 N1] 39)).alloc (.cells #[.slice o2 p2 c2, .int .i64 N2] 39)) = wD at *
      have hlt1 := lt_of_some' q1
      have hlt2 := lt_of_some' q2
      obtain ⟨x0, x1⟩ : wD.cell? ⟨b1, 0, none⟩ = some (.slice o1 p1 c1) ∧ wD.cell? ⟨b1, 1, none⟩ = some (.int .i64 N1) := ⟨(row_cell 0 _ q1 rfl).1, (row_cell 1 _ q1 rfl).1⟩
      have hui : IntKind.u64.wrap (N1 : Int) = N1 := by rw [IntKind.wrap_u64]; omega
      have hui2 : IntKind.u64.wrap (N2 : Int) = N2 := by rw [IntKind.wrap_u64]; omega
      have hq1 := putI_len 9 (N1 : Int)
      obtain ⟨l1, hl1⟩ : ∃ q, (putI 9 (N1 : Int)).length = q := ⟨_, rfl⟩
      have HL1 := Lib.hid hl1
      rw [hl1] at hq1
      have hq2 := putI_len 9 (N2 : Int)
      obtain ⟨l2, hl2⟩ : ∃ q, (putI 9 (N2 : Int)).length = q := ⟨_, rfl⟩
      have HL2 := Lib.hid hl2
      rw [hl2] at hq2
      clear hl1 hl2 hb1e hb2e
      have Hq2 := Lib.hid q2
      have hwd : w.heap.size ≤ wD.drew.heap.size := HB6.out.size
      go_region_held3 (fun w' => w'.cell? ⟨b1, 0, none⟩ = some (.slice o1 p1 c1) ∧ w'.cell? ⟨b1, 1, none⟩ = some (.int .i64 N1)) (first | (with_reducible exact ⟨x0, x1⟩) | (with_reducible exact ⟨y0, y1⟩) | (with_reducible exact ⟨z0, z1⟩) | go_keep) (first
        | (go_at_call 32; refine (bytesof_any 9 N1 (by omega) (by omega) (by omega) (lt_fuel (by omega)) _).mono ?_; rintro e w7 ⟨pv, rfl, hpv, hb7⟩; rw [HL1.out] at hpv; have HP7 := hpv; have HB7 := HB6.out.trans (hb7.mono hwd); have hs7 := HB7.size; have Q17 := hD5 hlt1 hb7 q1; have Q27 := hD5 hlt2 hb7 Hq2.out; have HV17 := HV16.out.below hb7; have HV27 := HV26.out.below hb7; have hsz7 := hb7.size; obtain ⟨y0, y1⟩ : w7.cell? ⟨b1, 0, none⟩ = some (.slice o1 p1 c1) ∧ w7.cell? ⟨b1, 1, none⟩ = some (.int .i64 N1) := ⟨(row_cell 0 _ Q17 rfl).1, (row_cell 1 _ Q17 rfl).1⟩)
        | (refine step_app_lies elU8 rfl _ _ rfl HP7 rfl rfl HV17 (ints_one8 _) hpp1.1 (by omega) (by omega) hsz7 ?_; intro g8 cap8 w8 HO8 hg8; have Q18 := grown_block2 hg8 (own_block_ne HP7 Q17 (by decide)) Q17; have Q28 := grown_block2 hg8 (own_block_ne HP7 Q27 (by decide)) Q27; have hb8 := Below.grown (Below.refl wD.drew.heap.size w7) hg8 hsz7 (fun k hk => (HP7.lt k hk).1); have HB8 := HB7.trans (hb8.mono hwd); have HV28 := sl_keepB HV27 HV26.out hb7 hb8; obtain ⟨z0, z1⟩ : w8.cell? ⟨b1, 0, none⟩ = some (.slice o1 p1 c1) ∧ w8.cell? ⟨b1, 1, none⟩ = some (.int .i64 N1) := ⟨(row_cell 0 _ Q18 rfl).1, (row_cell 1 _ Q18 rfl).1⟩))
      obtain ⟨t0, t1⟩ : w8.cell? ⟨b2, 0, none⟩ = some (.slice o2 p2 c2) ∧ w8.cell? ⟨b2, 1, none⟩ = some (.int .i64 N2) := ⟨(row_cell 0 _ Q28 rfl).1, (row_cell 1 _ Q28 rfl).1⟩
      have HO8' := Lib.hid HO8
      have HV8 := Lib.hid HV28
      have HB8' := Lib.hid HB8
      have Hb8 := Lib.hid (hb7.trans (hb8.mono (Nat.le_refl _)))
      have HQ8 := Lib.hid Q28
      have hlt8 := lt_of_some' Q28
      clear HO8 HV28 HB8 Q28 Q18 z0 z1 y0 y1 Q17 Q27 HV17 HV27 HP7 hpv HB7 hg8 q1 q2 hb8 hb7 x0 x1
      go_wp2_with fail
      refine (bytesof_any 9 N2 (by omega) (by omega) (by omega) (lt_fuel (by omega)) _).mono ?_
      rintro e w9 ⟨pv2, rfl, hpv2, hb9⟩
      rw [HL2.out] at hpv2
      have HQ9 := Lib.hid ((hb9.block b2 hlt8).trans HQ8.out)
      have HV9 := Lib.hid (HV8.out.below hb9)
      have hO9 := own_below HO8'.out hb9
      have hs9 := own_sl hpv2
      have hB9 := Hb8.out.trans (hb9.mono Hb8.out.size)
      have HB9 := Lib.hid hB9
      have hsz9 := hB9.size
      have hne9 := own_block_ne hO9 HQ9.out (by decide)
      clear hpv2 hb9 t0 t1 hB9
      go_wp2_with (at_builtin; refine wp_app_lies elU8 rfl _ _ rfl hO9 rfl rfl hs9 (ints_one8 _) ?c5 ?c6 ?c7 hsz9 ?_)
      case c5 => omega
      case c6 => omega
      case c7 => omega
      intro g10 cap10 w10 hO10 hg10
      have HQ10 := Lib.hid (grown_block2 hg10 hne9 HQ9.out)
      have hb10 := Below.grown HB9.out hg10 hsz9 (fun k hk => (hO9.lt k hk).1)
      have HV10 := Lib.hid (HV26.out.below hb10)
      obtain ⟨t0, t1⟩ : w10.cell? ⟨b2, 0, none⟩ = some (.slice o2 p2 c2) ∧ w10.cell? ⟨b2, 1, none⟩ = some (.int .i64 N2) := ⟨(row_cell 0 _ HQ10.out rfl).1, (row_cell 1 _ HQ10.out rfl).1⟩
      have hs10 := HV10.out
      have hsz10 := hb10.size
      have HB10 := Lib.hid hb10
      clear hO9 hs9 hne9 hg10 hb10
      go_wp2_with (at_builtin; refine wp_app_lies elU8 rfl _ _ rfl hO10 rfl rfl hs10 (ints_one8 _) hpp2.1 ?c8 ?c9 hsz10 ?_)
      case c8 => omega
      case c9 => omega
      intro g11 cap11 w11 hO11 hg11
      have hb11 := Below.grown HB10.out hg11 hsz10 (fun k hk => (hO10.lt k hk).1)
      have HB11 := Lib.hid (HB6.out.trans (hb11.mono hwd))
      have HFIN : Hid (w11.ownsRow w.heap.size 5 1 (.slice (some ⟨g11, 0, none⟩) (l1 + p1 + l2 + p2) cap11) (sealF l).length ((sealF l).map (Value.int .u8))) := Lib.hid (by
        have e : sealF l = putI 9 (N1 : Int) ++ pack s1 ++ (putI 9 (N2 : Int) ++ pack s2) := by unfold sealF sealP; rw [HL.out, HS1E.out, HS2E.out, HN1.out, HN2.out]
        have e2 : (sealF l).length = l1 + p1 + l2 + p2 := by rw [e]; simp only [List.length_append]; rw [HL1.out, HL2.out, HP1.out, HP2.out]; omega
        rw [e2, e, List.map_append, List.map_append, List.map_append, List.append_assoc]
        exact own_mono hO11 hwd)
      clear hO10 hO11 hg11 hb11 hs10
      go_wp2_with fail
      go_ret
      exact ⟨_, rfl, HFIN.out, HB11.out⟩
end Go.Proofs.YtbifhmbfmoeofaaDoor.Seal
/-
  The walk of the law ChunkSeals.
-/
namespace Go.Proofs.YtbifhmbfmoeofaaDoor.ChunkSeals
open Go.RowKit Go.Gh Go.Proofs.YtbifhmbfmoeofaaDoor.Bits Go.Proofs.YtbifhmbfmoeofaaDoor.Sam Go.Proofs.YtbifhmbfmoeofaaDoor.Smp Go.Proofs.YtbifhmbfmoeofaaDoor.Seal
set_option linter.unusedVariables false
theorem sealF_bytes (l : List (List Int)) (hl : l.length ≤ 1000) : ∀ z ∈ sealF l, (Lit.int .u8 z).wf = true := by
  have h1 := Go.Gh.ts_len (timesF l) l.length
  have h2 := Go.Gh.ms_len (valsF l) l.length
  have hp : ∀ s : List Bool, s.length ≤ 90000 → ∀ z ∈ putI 9 (s.length : Int) ++ pack s, (Lit.int .u8 z).wf = true := by
    intro s hs z hz
    rcases List.mem_append.1 hz with h | h
    · exact putI_wf 9 _ (by omega) (lt_fuel (by omega)) z h
    · exact u8_of_bytes (pack_bytes s) z h
  intro z hz
  unfold sealF sealP at hz
  rcases List.mem_append.1 hz with h | h
  · exact hp _ (by omega) z h
  · exact hp _ (by omega) z h
set_option maxHeartbeats 4000000 in
set_option maxRecDepth 100000 in
theorem walk (v : Value) (w : World) (h : IsRows 2 w v) (hT : Delta.Table w) (hX : Xor.TabX w) (h2 : 2 ≤ w.heap.size) :
    Calls Tryd.prog 3 #[v] w fun e w' => e = .returned (.bool true) ∧ Below w.heap.size w w' := by
  obtain ⟨n, l, hs, hl, hr, hn⟩ := h
  obtain ⟨ao, c, rfl, hnc, hcc, _⟩ := hs.shape
  have HL := Lib.hid hl
  have HR := Lib.hid hr
  have HS := Lib.hid hs
  have HT := Lib.hid hT
  have HX := Lib.hid hX
  have HN := Lib.hid hn
  clear hs hl hr hT hX hn
  by_cases hmid : 40 < n ∧ n ≤ 1000
  · obtain ⟨m1, m2⟩ := hmid
    go_enter Tryd.func3, Tryd.ntmps3
    go_wp2_with fail
    go_ret
    exact ⟨rfl, Below.refl _ _⟩
  obtain ⟨F, hF⟩ : ∃ F, sampF l = F := ⟨_, rfl⟩
  have HF := Lib.hid hF
  have t0 : (F != F) = false := by simp
  have t1 : (F == F) = true := by simp
  have hand : ¬ (40 < n) ∨ ¬ (n ≤ 1000) := by omega
  by_cases hz : F = 0
  case neg =>
    have t2 : (F != 0) = true := by rw [bne_iff_ne]; exact hz
    rcases hand with h40 | h1000
    case' inl => have hcase : n ≤ 40 := by omega
    case' inr => have hcase : 1000 < n := by omega
    all_goals
      go_enter Tryd.func3, Tryd.ntmps3
      go_wp2_with fail
      refine (seal_bad _ n l _ HS.out HL.out HR.out HN.out F HF.out hz).mono ?_
      rintro e w1 ⟨rfl, hb1⟩
      go_wp2_with fail
      refine (samplesfault_any _ n l _ (HS.out.below hb1) HL.out HR.out HN.out).mono ?_
      rw [HF.out]
      rintro e w2 ⟨rfl, hb2⟩
      have hb12 := hb1.trans (hb2.mono hb1.size)
      go_wp2_with fail
      refine (check_any _ n l _ (HS.out.below hb12) HL.out HR.out HN.out).mono ?_
      rw [HF.out]
      rintro e w3 ⟨rfl, hb3⟩
      have hb13 := hb12.trans (hb3.mono hb12.size)
      go_wp2_with fail
      go_ret
      exact ⟨rfl, hb13⟩
  subst hz
  have hn1 : n ≤ 1000 := by rw [← HL.out]; exact fault_small HF.out
  have hcase : n ≤ 40 := by omega
  go_enter Tryd.func3, Tryd.ntmps3
  go_wp2_with fail
  refine (seal_any _ n l _ HS.out HL.out HR.out HF.out HT.out HX.out h2).mono ?_
  rintro e w1 ⟨sv, rfl, hown1, hb1⟩
  have HV1 := Lib.hid (own_sl hown1)
  clear hown1
  go_wp2_with fail
  refine (samplesfault_any _ n l _ (HS.out.below hb1) HL.out HR.out HN.out).mono ?_
  rw [HF.out]
  rintro e w2 ⟨rfl, hb2⟩
  have hb12 := hb1.trans (hb2.mono hb1.size)
  have HV2 := Lib.hid (HV1.out.below hb2)
  go_wp2_with fail
  refine (check_any _ n l _ (HS.out.below hb12) HL.out HR.out HN.out).mono ?_
  rw [HF.out]
  rintro e w3 ⟨rfl, hb3⟩
  have hb13 := hb12.trans (hb3.mono hb12.size)
  have HV3 := Lib.hid (HV2.out.below hb3)
  clear hb1 hb2 hb12 hb3
  go_wp2_with fail
  refine (sealed_any _ n l _ (HS.out.below hb13) HL.out HR.out hn1).mono ?_
  rintro e w4 ⟨dv, rfl, hown4, hb4⟩
  have hb14 := hb13.trans (hb4.mono hb13.size)
  have hwf : ∀ z ∈ sealF l, (Lit.int .u8 z).wf = true := sealF_bytes l (by rw [HL.out]; exact hn1)
  have HE := equal_any sv dv _ _ _ _ w4 (HV3.out.below hb4) (own_sl hown4) hwf hwf
  rw [show decide (sealF l = sealF l) = true from by simp] at HE
  have HEE := Lib.hid HE
  clear HE hown4 hwf hb4
  go_wp2_with fail
  refine HEE.out.mono ?_
  rintro e w5 ⟨rfl, rfl⟩
  go_wp2_with fail
  go_ret
  exact ⟨rfl, hb14⟩
end Go.Proofs.YtbifhmbfmoeofaaDoor.ChunkSeals
