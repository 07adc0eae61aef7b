/-
  Words shared by the walks, part two: appends beside a struct of the call's own.
-/
import Derived.Test.YtjmplhkdohlbcaaGreatDoorEz1
import Derived.Deep.AppendLies
import Derived.Deep.RegionLaw
import Derived.Deep.Cut
import Derived.Deep.DeepCutAuto
import Derived.Deep.QuietTactic
import Derived.BigQuiet
import Derived.Outline
import Derived.WalkSpells
import Derived.Deep.Fields
import Derived.ChangeSame
import Derived.WalkKit
namespace Go.Gh
open Go.RowKit
set_option linter.unusedVariables false

theorem below_own {w0 W w' : World} {B Bo : Nat} {e : TypeId} {size n : Nat} {v : Value} {xs : List Value} (hown : W.ownsRow Bo e size v n xs) (hbel : Below B w0 W) (hBo : B ≤ Bo) (hsz : B ≤ W.heap.size) (hg : W.grownBy w' v.ownBlock) : Below B w0 w' :=
  Below.grown hbel hg hsz (fun k hk => Nat.le_trans hBo (hown.lt k hk).1)

/-- A cell of another block stays, behind what grows an owned row. -/
theorem grown_cell {W w' : World} {Bo : Nat} {e : TypeId} {size n : Nat} {v : Value} {xs : List Value} (hown : W.ownsRow Bo e size v n xs) (hg : W.grownBy w' v.ownBlock) {b o : Nat} {u : Value} (hb : b < Bo) (hc : W.cell? ⟨b, o, none⟩ = some u) : w'.cell? ⟨b, o, none⟩ = some u := by
  refine hg.cell hc ?_
  intro h
  have := (hown.lt b (h.symm)).1
  omega
theorem grown_block {W w' : World} {Bo : Nat} {e : TypeId} {size n : Nat} {v : Value} {xs : List Value} (hown : W.ownsRow Bo e size v n xs) (hg : W.grownBy w' v.ownBlock) {b : Nat} {o : Obj} (hb : b < Bo) (hc : W.heap[b]? = some o) : w'.heap[b]? = some o := by
  rw [hg.block b (Array.getElem?_eq_some_iff.1 hc).1 ?_]
  · exact hc
  · intro h
    have := (hown.lt b (h.symm)).1
    omega

/-- append of one fresh element to an owned row, as one step of a region that draws. -/
theorem step_app1 {P : Program} {ops : Array Oper} {o : Oper} {a : Act} {K : Act → World → Prop} {Q : Exit → Act → World → Prop} {E : Prop} {w0 W : World} {B Bo : Nat} {t e : TypeId} {size bytes n : Nat} {xs : List Value} {v : Value} (cells : List Value)
    (el : Elem P t e size bytes) (hgd : o.guard = none) (s x : Operand) (ho : o.op = .call { callee := .builtin .append, args := #[s, x], argTypes := #[t, t] })
    (hown : W.ownsRow Bo e size v n xs) (hbel : Below B w0 W) (hBo : B ≤ Bo) (hB : Bo ≤ W.heap.size) (hs : a.eval s = v) (hx : a.eval x = .slice (some ⟨W.heap.size, 0, none⟩) 1 1)
    (hl : cells.length = size) (h1 : ∀ u ∈ cells, u.oneCell' = true) (h47 : (n + 1) * bytes ≤ 140737488355328) (h63 : n + 1 ≤ 9223372036854775807)
    (h : ∀ g cap w', w'.ownsRow Bo e size (.slice (some ⟨g, 0, none⟩) (n + 1) cap) (n + 1) (xs ++ cells) → Below B w0 w' → W.grownBy w' v.ownBlock → K (a.put o.dst (.slice (some ⟨g, 0, none⟩) (n + 1) cap)) w') :
    if Region.wanted o (yielded ops a.tmps) = true then Oper.wp P o a (W.alloc (.cells cells.toArray e)) K Q else E := by
  obtain ⟨i, z, h2, h3, h4, h5, h6⟩ := el.info
  refine step_append_lies _ hgd s x t ho Bo e i z size bytes el.und h2 h3 h4 h5 h6 el.pos v n xs hs (hown.alloc _) ⟨W.heap.size, 0, none⟩ 1 1 cells hx (by rw [Nat.one_mul]; exact hl) (fresh_cells W cells e) h1 (by decide) (by unfold maxLen; exact h63) h47 (by simp; omega) _ rfl ?_
  intro g cap w' hown' hg _ _
  have hg' := grown_trans (World.grownBy_alloc W (Obj.cells cells.toArray e) v.ownBlock) hg
  exact h g cap w' hown' (below_own hown hbel hBo (by omega) hg') hg'
theorem row_cell {w : World} {b : Nat} {cs : Array Value} {e : TypeId} (i : Nat) (u : Value) (h : w.heap[b]? = some (.cells cs e (0, 0))) (hi : cs[i]? = some u) : w.cell? ⟨b, i, none⟩ = some u ∧ w.frozen? ⟨b, i, none⟩ = false := by
  constructor
  · simp [World.cell?, h, hi]
  · simp [World.frozen?, h]
theorem row_setCell {w : World} {b : Nat} {cs : Array Value} {e : TypeId} (i : Nat) (u : Value) (h : w.heap[b]? = some (.cells cs e (0, 0))) : (w.setCell ⟨b, i, none⟩ u).heap[b]? = some (.cells (cs.setIfInBounds i u) e (0, 0)) := by
  simp [World.setCell, h, Array.getElem?_modify]
theorem row_setCell_other {w : World} {b b' i : Nat} {o : Obj} (u : Value) (h : w.heap[b]? = some o) (hne : b ≠ b') : (w.setCell ⟨b', i, none⟩ u).heap[b]? = some o := by
  rw [Below.heap_setCell w ⟨b', i, none⟩ u b hne]; exact h
theorem two_first (w : World) (o o' : Obj) : ((w.alloc o).alloc o').heap[w.heap.size]? = some o := by
  rw [Below.heap_alloc (w.alloc o) o' w.heap.size (by simp)]
  exact heap_alloc_new w o
theorem two_second (w : World) (o o' : Obj) : ((w.alloc o).alloc o').heap[w.heap.size + 1]? = some o' := by
  have := heap_alloc_new (w.alloc o) o'
  rwa [World.size_alloc] at this

theorem own_block_ne {w : World} {B : Nat} {e e' : TypeId} {size n b : Nat} {v : Value} {xs : List Value} {cs : Array Value} {fr : Nat × Nat} (h : w.ownsRow B e size v n xs) (hb : w.heap[b]? = some (.cells cs e' fr)) (hne : e ≠ e') : v.ownBlock ≠ some b := by
  rcases h.2 with ⟨rfl, _⟩ | ⟨g, cap, cur, rfl, _, hg, _⟩
  · simp [Value.ownBlock]
  · intro h'
    simp [Value.ownBlock] at h'
    subst h'
    rw [hb] at hg
    simp at hg
    exact hne hg.2.1.symm
theorem grown_block2 {W w' : World} {row : Option Nat} (hg : W.grownBy w' row) {b : Nat} {o : Obj} (hne : row ≠ some b) (hc : W.heap[b]? = some o) : w'.heap[b]? = some o := by
  rw [hg.block b (Array.getElem?_eq_some_iff.1 hc).1 (fun h => hne h.symm)]
  exact hc

theorem grown_setCell {w w' : World} {b : Nat} (h : w.grownBy w' (some b)) (i : Nat) (u : Value) : w.grownBy (w'.setCell ⟨b, i, none⟩ u) (some b) :=
  ⟨h.os, h.tape, h.output, by simpa using h.size, fun k hk hne => by
    rw [Below.heap_setCell w' ⟨b, i, none⟩ u k (fun e => hne (by rw [e]))]
    exact h.block k hk hne⟩
theorem grown_drewN {w w' : World} {r : Option Nat} (h : w.grownBy w' r) (n : Nat) : w.grownBy (w'.drewN n) r := ⟨h.os, h.tape, h.output, h.size, h.block⟩
theorem below_of_grown {w w' : World} {r : Option Nat} {B : Nat} (h : w.grownBy w' r) (hB : B ≤ w.heap.size) (hr : ∀ k, r = some k → B ≤ k) : Below B w w' := Below.grown (Below.refl _ _) h hB hr

/-- 'append1' where the new cell's block is spelled as a number. -/
theorem append1p {P : Program} {ops : Array Oper} {rest : List Oper} {o : Oper} {a : Act} {Q : Exit → Act → World → Prop} {w0 W : World} {B p : Nat} {t e : TypeId} {size bytes n : Nat} {xs : List Value} {v : Value} (cells : List Value)
    (el : Elem P t e size bytes) (hgd : o.guard = none) (s x : Operand) (ho : o.op = .call { callee := .builtin .append, args := #[s, x], argTypes := #[t, t] })
    (hown : W.ownsRow B e size v n xs) (hbel : Below B w0 W) (hB : B ≤ W.heap.size) (hs : a.eval s = v) (hx : a.eval x = .slice (some ⟨p, 0, none⟩) 1 1) (hp : p = W.heap.size)
    (hl : cells.length = size) (h1 : ∀ u ∈ cells, u.oneCell' = true) (h47 : (n + 1) * bytes ≤ 140737488355328) (h63 : n + 1 ≤ 9223372036854775807)
    (h : ∀ v' w', w'.ownsRow B e size v' (n + 1) (xs ++ cells) → Below B w0 w' → W.grownBy w' v.ownBlock → wpList P ops Q rest (a.put o.dst v') w') :
    wpList P ops Q (o :: rest) a (W.alloc (.cells cells.toArray e)) := by
  subst hp
  exact append1 cells el hgd s x ho hown hbel hB hs hx hl h1 h47 h63 h
end Go.Gh
/-
  Lists of cells: of a list of things that have so many cells each.
-/
namespace Go.Gh
theorem flat_len {α β : Type} (f : α → List β) (size : Nat) (hf : ∀ a, (f a).length = size) (l : List α) : (l.flatMap f).length = l.length * size := by
  induction l with
  | nil => simp
  | cons a l ih => rw [List.flatMap_cons, List.length_append, hf, ih, List.length_cons, Nat.succ_mul, Nat.add_comm]
theorem flat_get {α β : Type} (f : α → List β) (size : Nat) (hf : ∀ a, (f a).length = size) (l : List α) (i j : Nat) (hi : i < l.length) (hj : j < size) :
    (l.flatMap f)[i * size + j]? = (f l[i])[j]? := by
  induction l generalizing i with
  | nil => simp at hi
  | cons a l ih =>
    rw [List.flatMap_cons]
    cases i with
    | zero => rw [Nat.zero_mul, Nat.zero_add, List.getElem?_append_left (by rw [hf]; exact hj)]; rfl
    | succ i =>
      rw [Nat.succ_mul, List.getElem?_append_right (by rw [hf]; omega), hf, show i * size + size + j - size = i * size + j from by omega]
      exact ih i (by simpa using hi)
theorem flat_take {α β : Type} (f : α → List β) (size : Nat) (hf : ∀ a, (f a).length = size) (l : List α) (n : Nat) (h : n ≤ l.length) : (l.take n).flatMap f = (l.flatMap f).take (n * size) := by
  induction l generalizing n with
  | nil => simp
  | cons a l ih =>
    cases n with
    | zero => simp
    | succ n =>
      rw [List.take_succ_cons, List.flatMap_cons, List.flatMap_cons, ih n (by simpa using h), Nat.succ_mul, Nat.add_comm, List.take_append, hf, List.take_of_length_le (l := f a) (by rw [hf]; omega), show size + n * size - size = n * size from by omega]
end Go.Gh
/-
  Slices of structs whose fields are all int64: how they read, and arguments opened.
-/
namespace Go.Gh
open Go.RowKit Go.ChangeShapes Go.WideShapes Go.ChangeAt Go.Deep
set_option linter.unusedVariables false

/-- The cells of rows of numbers. -/
def rowCells (l : List (List Int)) : List Value := l.flatMap fun r => r.map (Value.int .i64)
def Rows64 (k : Nat) (l : List (List Int)) : Prop := ∀ r ∈ l, r.length = k ∧ ∀ z ∈ r, (Lit.int .i64 z).wf = true

theorem rowCells_len (k : Nat) (l : List (List Int)) (h : ∀ r ∈ l, r.length = k) : (rowCells l).length = l.length * k := by
  unfold rowCells
  induction l with
  | nil => simp
  | cons a l ih => rw [List.flatMap_cons, List.length_append, List.length_map, h a (by simp), ih (fun r hr => h r (by simp [hr])), List.length_cons, Nat.succ_mul, Nat.add_comm]
theorem rowCells_get (k : Nat) (l : List (List Int)) (h : ∀ r ∈ l, r.length = k) (i j : Nat) (hi : i < l.length) (hj : j < k) : (rowCells l)[i * k + j]? = (l[i].map (Value.int .i64))[j]? := by
  unfold rowCells
  induction l generalizing i with
  | nil => simp at hi
  | cons a l ih =>
    have ha := h a (by simp)
    rw [List.flatMap_cons]
    cases i with
    | zero => rw [Nat.zero_mul, Nat.zero_add, List.getElem?_append_left (by rw [List.length_map, ha]; exact hj)]; rfl
    | succ i =>
      rw [Nat.succ_mul, List.getElem?_append_right (by rw [List.length_map, ha]; omega), List.length_map, ha, show i * k + k + j - k = i * k + j from by omega]
      exact ih (fun r hr => h r (by simp [hr])) i (by simpa using hi)
section
variable {H : Type} {enc : TypeId × Value → H} {P : Program} {W : World} {base : Nat} {spare : Nat → Bool} {held : Bool}
theorem sl_structs {t e : TypeId} {fs : Array Field} {fuel : Nat} {v : Value} {x : DataW H × List MemPlace} (ht : P.underlying t = some (.slice e)) (he : P.underlying e = some (.struct fs))
    (hi : ∀ (j : Nat) (f : Field), fs[j]? = some f → P.underlying f.type = some (.int .i64)) (hone : oneCellFields P fs = true) (hpos : 0 < fs.size) (hC : P.cellsOf e = fs.size)
    (h : DataW.trod enc P W base spare held fuel t [v] = some x) (hs : ∀ n ∈ x.1.weights P t, n ≤ reachBytes) :
    ∃ (n : Nat) (l : List (List Int)), Sl W fs.size v n (rowCells l) ∧ l.length = n ∧ Rows64 fs.size l ∧ n * P.bytesOf e ≤ reachBytes := by
  rcases open_slice ht h with ⟨hcs, _⟩ | ⟨a, len, cap, m, n, D, Pl, hcs, hb, hl, hm, hmm, hx, hi'⟩
  · obtain rfl : v = .slice none 0 0 := by simpa using hcs
    exact ⟨0, [], ⟨none, 0, rfl, Nat.le_refl _, Nat.zero_le _, fun _ => rfl, by simp [rowCells], fun h => absurd h (Nat.lt_irrefl _)⟩, rfl, by intro r hr; simp at hr, by simp⟩
  · obtain rfl : v = .slice (some a) len cap := by simpa using hcs
    have hlm : len ≤ m := by rw [hmm]; split <;> omega
    have each : ∀ i, i < len → ∃ r : List Int, (r.length = fs.size ∧ ∀ z ∈ r, (Lit.int .i64 z).wf = true) ∧ ∀ j u, (r.map (Value.int .i64))[j]? = some u → W.cell? (a.add (i * fs.size + j)) = some u := by
      intro i hlt
      obtain ⟨cs', hc, ht'⟩ := hi' i (by omega)
      rw [hC] at hc
      obtain ⟨xs, n', _, _, hlen, hxl, hf⟩ := DataW.trod_struct he ht'
      obtain ⟨_, hcl, hat⟩ := World.cells?_some hc
      have hz : ∀ j, j < fs.size → ∃ z : Int, cs'[j]? = some (.int .i64 z) ∧ (Lit.int .i64 z).wf = true := by
        intro j hj
        have hfj : fs[j]? = some fs[j] := Array.getElem?_eq_getElem hj
        obtain ⟨ho, hk⟩ := hone_of hone j _ hfj
        have h1 := hf j _ hfj
        have hjc : j < cs'.length := by rw [hcl]; exact hj
        rw [ho, hk, take1_drop cs' j undef hjc, List.getElem?_eq_getElem (show j < xs.length by rw [hxl]; exact hj)] at h1
        obtain ⟨z, hzz, _, hw⟩ := DataW.trod_int (hi j _ hfj) h1
        refine ⟨z, ?_, hw⟩
        rw [List.getElem?_eq_getElem hjc]
        have : cs'.getD j undef = .int .i64 z := by simpa using hzz
        rw [List.getD_eq_getElem?_getD, List.getElem?_eq_getElem hjc] at this
        simpa using this
      obtain ⟨Z, hZ⟩ := choose_lt hz
      refine ⟨(List.range fs.size).map Z, ⟨by simp, ?_⟩, ?_⟩
      · intro z hz'
        simp at hz'
        obtain ⟨j, hj, rfl⟩ := hz'
        exact (hZ j hj).2
      · intro j u hu
        have hj : j < fs.size := by
          rcases Nat.lt_or_ge j fs.size with h' | h'
          · exact h'
          · rw [List.getElem?_eq_none (by simp; exact h')] at hu; simp at hu
        simp [hj] at hu
        subst hu
        have h2 := hat j hj
        rw [add_add, (hZ j hj).1] at h2
        exact h2
    obtain ⟨R, hR⟩ := choose_lt each
    have hlen : ((List.range len).map R).length = len := by simp
    have hsz : ∀ r ∈ (List.range len).map R, r.length = fs.size := by
      intro r hr
      simp at hr
      obtain ⟨i, hi, rfl⟩ := hr
      exact (hR i hi).1.1
    refine ⟨len, (List.range len).map R, ⟨some a, cap, rfl, hl, hm, fun h => by simp at h, ?_, fun hn => ?_⟩, hlen, ?_, ?_⟩
    · rw [rowCells_len fs.size _ hsz, hlen]
    · have h0 := (hR 0 hn).2 0 (.int .i64 ((R 0).getD 0 0)) (by
        have : 0 < (R 0).length := by rw [(hR 0 hn).1.1]; exact hpos
        simp [this])
      obtain ⟨b, off, spot⟩ := a
      have hs := World.cell?_spot h0
      simp [Addr.add] at hs
      subst hs
      refine ⟨b, off, rfl, fun i u hu => ?_⟩
      have hidx : i < len * fs.size := by
        rcases Nat.lt_or_ge i (len * fs.size) with h' | h'
        · exact h'
        · rw [List.getElem?_eq_none (by rw [rowCells_len fs.size _ hsz, hlen]; exact h')] at hu; simp at hu
      have hq : i / fs.size < len := Nat.div_lt_of_lt_mul (by rw [Nat.mul_comm]; exact hidx)
      have hr : i % fs.size < fs.size := Nat.mod_lt _ hpos
      have hdm : i / fs.size * fs.size + i % fs.size = i := by rw [Nat.mul_comm]; exact Nat.div_add_mod i fs.size
      rw [← hdm, rowCells_get fs.size _ hsz (i / fs.size) (i % fs.size) (by rw [hlen]; exact hq) hr] at hu
      have := (hR (i / fs.size) hq).2 (i % fs.size) u (by simpa using hu)
      rw [addr_add, hdm] at this
      exact this
    · intro r hr
      simp at hr
      obtain ⟨i, hi, rfl⟩ := hr
      exact (hR i hi).1
    · have := hs ((((List.range len).map D).length + ((List.range (m - len)).map fun j => D (len + j)).length) * P.bytesOf e) (by rw [hx]; simp [DataW.weights, ht])
      refine Nat.le_trans (Nat.mul_le_mul_right _ ?_) this
      simp
end

/-- A slice of structs of k fields, all int64, that came in. -/
def IsRows (k : Nat) (w : World) (v : Value) : Prop := ∃ (n : Nat) (l : List (List Int)), Sl w k v n (rowCells l) ∧ l.length = n ∧ Rows64 k l ∧ n ≤ 140737488355328
def all64 (P : Program) (fs : Array Field) : Bool := (List.range fs.size).all fun j => match fs[j]? with
  | some f => match P.underlying f.type with
    | some (.int .i64) => true
    | _ => false
  | none => false
theorem all64_of {P : Program} {fs : Array Field} (h : all64 P fs = true) : ∀ (j : Nat) (f : Field), fs[j]? = some f → P.underlying f.type = some (.int .i64) := by
  intro j f hj
  have hlt : j < fs.size := (Array.getElem?_eq_some_iff.1 hj).1
  have := List.all_eq_true.1 h j (List.mem_range.2 hlt)
  rw [hj] at this
  simp only at this
  split at this
  · assumption
  · simp at this
section
variable {H : Type} {enc : TypeId × Value → H} {P : Program} {W : World} {base b0 : Nat} {r : Reach} {spare : Nat → Bool} {held : Bool} {t e : TypeId} {v : Value} {d : DataW H} {ps : List MemPlace}
theorem isRows_of {fs : Array Field} (ht : P.underlying t = some (.slice e)) (he : P.underlying e = some (.struct fs)) (h64 : all64 P fs = true) (hone : oneCellFields P fs = true) (hpos : 0 < fs.size) (hC : P.cellsOf e = fs.size) (hb : 0 < P.bytesOf e)
    (hv : Value.okWide P W r b0 t v) (hd : DataW.Trod enc P W base spare held t v d ps) (hs : ∀ n ∈ d.weights P t, n ≤ reachBytes) : IsRows fs.size W v := by
  obtain ⟨a, l, c, rfl⟩ := okWide_slice ht hv
  obtain ⟨fuel, hf⟩ := hd
  obtain ⟨n, l, h1, h2, h3, h4⟩ := sl_structs ht he (all64_of h64) hone hpos hC (by simpa [Value.cells] using hf) hs
  exact ⟨n, l, h1, h2, h3, reach_le h4 hb⟩
end
/-- An element: where it lies, and its fields' cells. -/
theorem Sl.row {w : World} {ao : Option Addr} {n c k : Nat} {l : List (List Int)} (h : Sl w k (.slice ao n c) n (rowCells l)) (hl : l.length = n) (hr : Rows64 k l) {i : Nat} (hi : i < n) :
    ∃ b off, ao = some ⟨b, off, none⟩ ∧ (l.getD i []).length = k ∧ (∀ z ∈ l.getD i [], (Lit.int .i64 z).wf = true) ∧ ∀ j, j < k → w.cell? ⟨b, off + i * k + j, none⟩ = some (.int .i64 ((l.getD i []).getD j 0)) := by
  obtain ⟨ao', cap, h1, h2, h3, h4, h5, h6⟩ := h
  simp at h1
  obtain ⟨rfl, rfl⟩ := h1
  obtain ⟨b, off, rfl, hc⟩ := h6 (by omega)
  have hil : i < l.length := by omega
  have hg : l.getD i [] = l[i] := by rw [List.getD_eq_getElem?_getD, List.getElem?_eq_getElem hil]; rfl
  rw [hg]
  have hri := hr l[i] (List.getElem_mem _)
  refine ⟨b, off, rfl, hri.1, hri.2, fun j hj => ?_⟩
  have := rowCells_get k l (fun r hr' => (hr r hr').1) i j hil hj
  rw [Nat.add_assoc]
  refine hc _ _ ?_
  rw [this]
  have hj' : j < l[i].length := by rw [hri.1]; exact hj
  simp [hj']
end Go.Gh
/-
  Words shared by the walks, part three: rows of structs that are written over.
-/
namespace Go.Gh
open Go.RowKit
set_option linter.unusedVariables false

def setCells (w : World) (g k : Nat) : List Value → World
  | [] => w
  | u :: us => setCells (w.setCell ⟨g, k, none⟩ u) g (k + 1) us
def setFrom (xs : List Value) (k : Nat) : List Value → List Value
  | [] => xs
  | u :: us => setFrom (xs.set k u) (k + 1) us
theorem own_stores {B g n cap size : Nat} {e : TypeId} : ∀ (us : List Value) (w : World) (k : Nat) (xs : List Value), w.ownsRow B e size (.slice (some ⟨g, 0, none⟩) n cap) n xs →
    (setCells w g k us).ownsRow B e size (.slice (some ⟨g, 0, none⟩) n cap) n (setFrom xs k us)
  | [], w, k, xs, h => h
  | u :: us, w, k, xs, h => own_stores us _ (k + 1) _ (h.stored k u).1
theorem below_stores {B g : Nat} {w0 : World} (hg : B ≤ g) : ∀ (us : List Value) (w : World) (k : Nat), Below B w0 w → Below B w0 (setCells w g k us)
  | [], w, k, h => h
  | u :: us, w, k, h => below_stores hg us _ (k + 1) (h.setCell (p := ⟨g, k, none⟩) hg u)
theorem row_stores {b : Nat} {e : TypeId} : ∀ (us : List Value) (w : World) (k : Nat) (cs : List Value), w.heap[b]? = some (.cells cs.toArray e (0, 0)) → (setCells w b k us).heap[b]? = some (.cells (setFrom cs k us).toArray e (0, 0))
  | [], w, k, cs, h => h
  | u :: us, w, k, cs, h => by
    have := row_setCell k u h
    rw [List.setIfInBounds_toArray] at this
    exact row_stores us _ (k + 1) (cs.set k u) this
theorem own_stores_other {B n b size : Nat} {e : TypeId} {v : Value} {xs : List Value} (hne : v.ownBlock ≠ some b) : ∀ (us : List Value) (w : World) (k : Nat), w.ownsRow B e size v n xs → (setCells w b k us).ownsRow B e size v n xs
  | [], w, k, h => h
  | u :: us, w, k, h => own_stores_other hne us _ (k + 1) (ownsRow_setCell_other h (a := ⟨b, k, none⟩) hne u)
theorem block_stores_other {b b' : Nat} {o : Obj} (hne : b' ≠ b) : ∀ (us : List Value) (w : World) (k : Nat), w.heap[b']? = some o → (setCells w b k us).heap[b']? = some o
  | [], w, k, h => h
  | u :: us, w, k, h => block_stores_other hne us _ (k + 1) (row_setCell_other u h hne)
theorem setFrom_mid : ∀ (us mid pre post : List Value), mid.length = us.length → setFrom (pre ++ mid ++ post) pre.length us = pre ++ us ++ post
  | [], mid, pre, post, h => by
    have : mid = [] := List.length_eq_zero_iff.1 h
    subst this; rfl
  | u :: us, mid, pre, post, h => by
    match mid, h with
    | m :: mid, h =>
      have e : (pre ++ m :: mid ++ post).set pre.length u = (pre ++ [u]) ++ mid ++ post := by
        rw [List.append_assoc, List.set_append_right _ _ (Nat.le_refl _)]
        simp
      have := setFrom_mid us mid (pre ++ [u]) post (by simpa using h)
      rw [setFrom, e]
      rw [List.length_append, List.length_singleton] at this
      rw [this]
      simp
theorem setFrom_all (us cs : List Value) (h : cs.length = us.length) : setFrom cs 0 us = us := by
  have := setFrom_mid us cs [] [] h
  simpa using this
def RowsK (k : Nat) (l : List (List Int)) : Prop := ∀ r ∈ l, r.length = k
theorem Rows64.k {k : Nat} {l : List (List Int)} (h : Rows64 k l) : RowsK k l := fun r hr => (h r hr).1
theorem rowCells_append (a b : List (List Int)) : rowCells (a ++ b) = rowCells a ++ rowCells b := by
  unfold rowCells; rw [List.flatMap_append]
theorem rowCells_one (r : List Int) : rowCells [r] = r.map (Value.int .i64) := by
  unfold rowCells; simp
/-- A row is written over. -/
theorem setFrom_row {k : Nat} (l : List (List Int)) (h : RowsK k l) (i : Nat) (hi : i < l.length) (r : List Int) (hr : r.length = k) : setFrom (rowCells l) (i * k) (r.map (Value.int .i64)) = rowCells (l.set i r) := by
  have e1 : l = l.take i ++ [l[i]] ++ l.drop (i + 1) := by
    rw [List.append_assoc, List.singleton_append, ← List.drop_eq_getElem_cons hi, List.take_append_drop]
  have e2 : l.set i r = l.take i ++ [r] ++ l.drop (i + 1) := by
    rw [List.set_eq_take_append_cons_drop, if_pos hi, List.append_assoc, List.singleton_append]
  rw [e2]
  conv => lhs; rw [e1]
  rw [rowCells_append, rowCells_append, rowCells_append, rowCells_append, rowCells_one, rowCells_one]
  have hl : (rowCells (l.take i)).length = i * k := by
    rw [rowCells_len k _ (fun r hr => h r (List.mem_of_mem_take hr)), List.length_take, Nat.min_eq_left (by omega)]
  rw [← hl]
  exact setFrom_mid _ _ _ _ (by simp [hr, h l[i] (List.getElem_mem _)])
/-- An element: where it lies, and its fields' cells (lengths alone asked). -/
theorem Sl.rowk {w : World} {ao : Option Addr} {n c k : Nat} {l : List (List Int)} (h : Sl w k (.slice ao n c) n (rowCells l)) (hl : l.length = n) (hr : RowsK k l) {i : Nat} (hi : i < n) :
    ∃ b off, ao = some ⟨b, off, none⟩ ∧ (l.getD i []).length = k ∧ ∀ j, j < k → w.cell? ⟨b, off + i * k + j, none⟩ = some (.int .i64 ((l.getD i []).getD j 0)) := by
  obtain ⟨ao', cap, h1, h2, h3, h4, h5, h6⟩ := h
  simp at h1
  obtain ⟨rfl, rfl⟩ := h1
  obtain ⟨b, off, rfl, hc⟩ := h6 (by omega)
  have hil : i < l.length := by omega
  have hg : l.getD i [] = l[i] := by rw [List.getD_eq_getElem?_getD, List.getElem?_eq_getElem hil]; rfl
  rw [hg]
  have hri := hr l[i] (List.getElem_mem _)
  refine ⟨b, off, rfl, hri, fun j hj => ?_⟩
  have := rowCells_get k l hr i j hil hj
  rw [Nat.add_assoc]
  refine hc _ _ ?_
  rw [this]
  have hj' : j < l[i].length := by rw [hri]; exact hj
  simp [hj']
theorem own_shape {w : World} {B : Nat} {e : TypeId} {size n : Nat} {v : Value} {xs : List Value} (h : w.ownsRow B e size v n xs) : ∃ ao c, v = .slice ao n c ∧ n ≤ c ∧ c ≤ 9223372036854775807 ∧ xs.length = n * size := (own_sl h).shape
/-- The rows that an owned row holds, cell by cell. -/
theorem own_row {w : World} {B : Nat} {e : TypeId} {g n cap k : Nat} {l : List (List Int)} (h : w.ownsRow B e k (.slice (some ⟨g, 0, none⟩) n cap) n (rowCells l)) (hr : RowsK k l) (hl : l.length = n) {i j : Nat} (hi : i < n) (hj : j < k) :
    w.cell? ⟨g, i * k + j, none⟩ = some (.int .i64 ((l.getD i []).getD j 0)) ∧ w.frozen? ⟨g, i * k + j, none⟩ = false := by
  refine ⟨?_, h.frozenAt _⟩
  have hlt : i * k + j < n * k := by
    have : (i + 1) * k ≤ n * k := Nat.mul_le_mul_right _ hi
    rw [Nat.succ_mul] at this
    omega
  rw [h.cellAt _ hlt]
  have := rowCells_get k l hr i j (by omega) hj
  rw [this]
  have hil : i < l.length := by omega
  have hri := hr l[i] (List.getElem_mem _)
  have hj' : j < l[i].length := by rw [hri]; exact hj
  have hg : l.getD i [] = l[i] := by rw [List.getD_eq_getElem?_getD, List.getElem?_eq_getElem hil]; rfl
  rw [hg]
  simp [hj']
end Go.Gh
/-
  Slice expressions on slices that read as lists of cells.
-/
namespace Go.Gh
open Go.RowKit
set_option linter.unusedVariables false

theorem sl_sliced {w : World} {size n L H cap : Nat} {ao : Option Addr} {xs : List Value} (h : Sl w size (.slice ao n cap) n xs) (h1 : L ≤ H) (h2 : H ≤ n) : Sl w size (sliced ao L H cap size) (H - L) ((xs.drop (L * size)).take ((H - L) * size)) := by
  obtain ⟨ao', cap', e1, e2, e3, e4, e5, e6⟩ := h
  simp at e1
  obtain ⟨rfl, rfl⟩ := e1
  have hlen : ((xs.drop (L * size)).take ((H - L) * size)).length = (H - L) * size := by
    rw [List.length_take, List.length_drop, e5]
    have : (H - L) * size + L * size ≤ n * size := by rw [← Nat.add_mul]; exact Nat.mul_le_mul_right _ (by omega)
    omega
  refine ⟨_, cap - L, rfl, by omega, by omega, ?_, hlen, fun hn => ?_⟩
  · intro hnone
    split at hnone
    · omega
    · have : ao = none := by
        cases ao with
        | none => rfl
        | some a => simp at hnone
      have := e4 this
      omega
  · obtain ⟨b, off, rfl, hc⟩ := e6 (by omega)
    rw [if_neg (by omega)]
    refine ⟨b, off + L * size, by simp [addr_add], fun i u hu => ?_⟩
    have hi : i < (H - L) * size := by
      rcases Nat.lt_or_ge i ((H - L) * size) with h | h
      · exact h
      · rw [List.getElem?_eq_none (by rw [hlen]; exact h)] at hu; simp at hu
    rw [List.getElem?_take, if_pos hi, List.getElem?_drop] at hu
    rw [Nat.add_assoc]
    exact hc _ u hu
theorem wpList_run {P : Program} {ops : Array Oper} {rest : List Oper} {o : Oper} {a : Act} {Q : Exit → Act → World → Prop} {W : World} {v : Value} (hgd : o.guard = none) (h : (execOp a.eval o).run P W = .ok (.value v) W) (hk : wpList P ops Q rest (a.put o.dst v) W) : wpList P ops Q (o :: rest) a W :=
  wpList_plain hgd fun _ hK => by
    unfold Oper.wp
    rw [h]
    exact hK _ _ hk
theorem run_sizeOf_el {P : Program} {t e : TypeId} {size bytes : Nat} (el : Elem P t e size bytes) (w : World) : (sizeOf e).run P w = .ok size w := by
  obtain ⟨i, z, h2, h3, h4, _⟩ := el.info
  simp [sizeOf, typeInfo, h2, h4]
theorem elem_eq {P : Program} {t e : TypeId} {size bytes : Nat} (el : Elem P t e size bytes) : P.underlying t = some (.slice (P.elem t)) ∧ P.elem t = e := by
  have h := el.und
  have : P.elem t = e := by unfold Program.elem; rw [h]
  exact ⟨by rw [this]; exact h, this⟩
theorem exec_slice {P : Program} {ρ : Operand → Value} {o : Oper} {W : World} {t e : TypeId} {size bytes n cap L H : Nat} {ao : Option Addr} {x : Operand} {lo hi : Option Operand} (el : Elem P t e size bytes) (ho : o.op = .slice t x lo hi none) (hx : ρ x = .slice ao n cap)
    (hr : (Instr.slice t (.slice ao n cap) (lo.map ρ) (hi.map ρ) none).run P W = ((sizeOf (P.elem t)).run P W).andThen fun s w => .ok (sliced ao L H cap s) w) : (execOp ρ o).run P W = .ok (.value (sliced ao L H cap size)) W := by
  obtain ⟨e1, e2⟩ := elem_eq el
  unfold execOp
  rw [ho]
  simp only [Sem.run_bind, Option.map_none, hx, run_sliceAt_slice W t _ _ _ _ e1, hr, e2, run_sizeOf_el el, Result.andThen_ok]
  rfl
/-- x[1:] of a slice that is not empty. -/
theorem wpList_tail {P : Program} {ops : Array Oper} {rest : List Oper} {o : Oper} {a : Act} {Q : Exit → Act → World → Prop} {W W0 : World} {t e : TypeId} {size bytes n : Nat} {x : Operand} {v : Value} {xs : List Value} (el : Elem P t e size bytes) (hgd : o.guard = none)
    (ho : o.op = .slice t x (some (.const (.int .i64 1))) none none) (hx : a.eval x = v) (hS : Sl W0 size v (n + 1) xs) (h : ∀ ao c, Sl W0 size (.slice ao n c) n (xs.drop size) → wpList P ops Q rest (a.put o.dst (.slice ao n c)) W) : wpList P ops Q (o :: rest) a W := by
  obtain ⟨ao, cap, rfl, h2, h3, h4, h5, h6⟩ := hS
  have hS : Sl W0 size (.slice ao (n + 1) cap) (n + 1) xs := ⟨ao, cap, rfl, h2, h3, h4, h5, h6⟩
  obtain ⟨e1, e2⟩ := elem_eq el
  refine wpList_run hgd (exec_slice (L := 1) (H := n + 1) el ho hx ?_) ?_
  · simp only [Option.map_some, Option.map_none]
    exact run_slice_l W t ao (n + 1) cap e1 .i64 1 (by decide) (by omega)
  · have := sl_sliced hS (show 1 ≤ n + 1 by omega) (Nat.le_refl _)
    rw [Nat.one_mul, List.take_of_length_le (by rw [List.length_drop, h5, Nat.add_sub_cancel, Nat.add_mul]; omega)] at this
    exact h _ _ this
/-- x[lo:hi]. -/
theorem wpList_cut {P : Program} {ops : Array Oper} {rest : List Oper} {o : Oper} {a : Act} {Q : Exit → Act → World → Prop} {W W0 : World} {t e : TypeId} {size bytes n : Nat} {x l h : Operand} {v : Value} {xs : List Value} (L H : Nat) (el : Elem P t e size bytes) (hgd : o.guard = none)
    (ho : o.op = .slice t x (some l) (some h) none) (hx : a.eval x = v) (hl : ∃ k, a.eval l = .int k L) (hh : ∃ k, a.eval h = .int k H) (hS : Sl W0 size v n xs) (h1 : L ≤ H) (h2 : H ≤ n) (hk : ∀ ao c, Sl W0 size (.slice ao (H - L) c) (H - L) ((xs.drop (L * size)).take ((H - L) * size)) → wpList P ops Q rest (a.put o.dst (.slice ao (H - L) c)) W) : wpList P ops Q (o :: rest) a W := by
  obtain ⟨ao, cap, rfl, g2, g3, g4, g5, g6⟩ := hS
  have hS : Sl W0 size (.slice ao n cap) n xs := ⟨ao, cap, rfl, g2, g3, g4, g5, g6⟩
  obtain ⟨e1, e2⟩ := elem_eq el
  obtain ⟨kl, hl⟩ := hl
  obtain ⟨kh, hh⟩ := hh
  refine wpList_run hgd (exec_slice (L := L) (H := H) el ho hx ?_) ?_
  · simp only [Option.map_some, hl, hh]
    have := run_slice_lh W t ao n cap e1 kl kh (L : Int) (H : Int) (by omega) (by omega) (by omega)
    simpa using this
  · exact hk _ _ (sl_sliced hS h1 h2)
theorem rowCells_drop {k : Nat} {l : List (List Int)} (h : RowsK k l) (i : Nat) (hi : i ≤ l.length) : (rowCells l).drop (i * k) = rowCells (l.drop i) := by
  conv => lhs; rw [← List.take_append_drop i l]
  rw [rowCells_append]
  have hl : (rowCells (l.take i)).length = i * k := by
    rw [rowCells_len k _ (fun r hr => h r (List.mem_of_mem_take hr)), List.length_take, Nat.min_eq_left hi]
  rw [List.drop_append_of_le_length (by omega), List.drop_of_length_le (by omega), List.nil_append]
theorem rowCells_take {k : Nat} {l : List (List Int)} (h : RowsK k l) (i : Nat) : (rowCells l).take (i * k) = rowCells (l.take i) := by
  rcases Nat.lt_or_ge i l.length with hi | hi
  · conv => lhs; rw [← List.take_append_drop i l]
    rw [rowCells_append]
    have hl : (rowCells (l.take i)).length = i * k := by
      rw [rowCells_len k _ (fun r hr => h r (List.mem_of_mem_take hr)), List.length_take, Nat.min_eq_left (by omega)]
    rw [List.take_append_of_le_length (by omega), List.take_of_length_le (by omega)]
  · rw [List.take_of_length_le hi, List.take_of_length_le]
    rw [rowCells_len k _ h]
    exact Nat.mul_le_mul_right _ hi
theorem RowsK.drop {k : Nat} {l : List (List Int)} (h : RowsK k l) (i : Nat) : RowsK k (l.drop i) := fun r hr => h r (List.mem_of_mem_drop hr)
theorem RowsK.tail {k : Nat} {r : List Int} {l : List (List Int)} (h : RowsK k (r :: l)) : RowsK k l := fun x hx => h x (List.mem_cons_of_mem _ hx)
theorem rowCells_tail {k : Nat} {r : List Int} {l : List (List Int)} (h : r.length = k) : (rowCells (r :: l)).drop k = rowCells l := by
  unfold rowCells
  rw [List.flatMap_cons, List.drop_append_of_le_length (by simp; omega), List.drop_of_length_le (by simp; omega), List.nil_append]
theorem RowsK.snoc {k : Nat} {acc : List (List Int)} {r : List Int} (h : RowsK k acc) (hr : r.length = k) : RowsK k (acc ++ [r]) := by
  intro x hx
  rcases List.mem_append.1 hx with h' | h'
  · exact h x h'
  · simp at h'; subst h'; exact hr
/-- The head of a list of rows: where it lies, its cells. -/
theorem Sl.head {w : World} {ao : Option Addr} {n c k : Nat} {r : List Int} {l : List (List Int)} (h : Sl w k (.slice ao n c) n (rowCells (r :: l))) (hn : (r :: l).length = n) (hr : RowsK k (r :: l)) :
    ∃ b off, ao = some ⟨b, off, none⟩ ∧ r.length = k ∧ ∀ j, j < k → w.cell? ⟨b, off + j, none⟩ = some (.int .i64 (r.getD j 0)) := by
  obtain ⟨b, off, h1, h2, h3⟩ := h.rowk hn hr (i := 0) (by rw [← hn]; simp)
  refine ⟨b, off, h1, h2, fun j hj => ?_⟩
  have := h3 j hj
  rwa [Nat.zero_mul, Nat.add_zero] at this
end Go.Gh
/-
  Windows rolled up, as a plain function on rows of seven numbers: [T, N, Sum, Min, Max, First, Last].
-/
namespace Go.Gh
open Go.RowKit

def rg (r : List Int) (j : Nat) : Int := r.getD j 0
def oneW (s : List Int) : List Int := [rg s 0, 1, rg s 1, rg s 1, rg s 1, rg s 1, rg s 1]
def bothW (a b : List Int) : List Int := [rg a 0, IntKind.i64.wrap (rg a 1 + rg b 1), IntKind.i64.wrap (rg a 2 + rg b 2), min (rg a 3) (rg b 3), max (rg a 4) (rg b 4), rg a 5, rg b 6]
/-- The start of the window of a time. -/
def startW (t width : Int) : Int := t - t % width
def setT (r : List Int) (t : Int) : List Int := t :: r.drop 1
/-- Fold rows behind those that are done; nothing, if a window counts more than 10^9. -/
def foldW (width : Int) (acc : List (List Int)) : List (List Int) → Option (List (List Int))
  | [] => some acc
  | x :: rest =>
    match acc.getLast? with
    | none => foldW width (acc ++ [setT x (startW (rg x 0) width)]) rest
    | some o =>
      if rg o 0 = startW (rg x 0) width then
        if 1000000000 < rg (bothW o x) 1 then none else foldW width (acc.dropLast ++ [bothW o x]) rest
      else foldW width (acc ++ [setT x (startW (rg x 0) width)]) rest
def goodT (t : Int) : Prop := -1152921504606846976 ≤ t ∧ t ≤ 1152921504606846976
instance (t : Int) : Decidable (goodT t) := inferInstanceAs (Decidable (_ ∧ _))
open Classical in
noncomputable def rolled (l : List (List Int)) (width : Int) : List (List Int) × Int :=
  if width < 1 ∨ 1099511627776 < width then ([], 1) else if ¬ ∀ r ∈ l, goodT (rg r 0) then ([], 6) else match foldW width [] l with
    | none => ([], 2)
    | some out => (out, 0)

theorem fold_new (width : Int) (acc : List (List Int)) (x : List Int) (rest : List (List Int)) (h : ∀ o, acc.getLast? = some o → rg o 0 ≠ startW (rg x 0) width) :
    foldW width acc (x :: rest) = foldW width (acc ++ [setT x (startW (rg x 0) width)]) rest := by
  rw [foldW]
  cases hl : acc.getLast? with
  | none => rfl
  | some o => simp [h o hl]
theorem fold_same (width : Int) (acc : List (List Int)) (o x : List Int) (rest : List (List Int)) (h : rg o 0 = startW (rg x 0) width) (hn : ¬ 1000000000 < rg (bothW o x) 1) :
    foldW width (acc ++ [o]) (x :: rest) = foldW width (acc ++ [bothW o x]) rest := by
  rw [foldW]
  simp [h, hn]
theorem fold_large (width : Int) (acc : List (List Int)) (o x : List Int) (rest : List (List Int)) (h : rg o 0 = startW (rg x 0) width) (hn : 1000000000 < rg (bothW o x) 1) :
    foldW width (acc ++ [o]) (x :: rest) = none := by
  rw [foldW]
  simp [h, hn]
theorem start_le (t width : Int) (h : 1 ≤ width) : startW t width ≤ t ∧ t < startW t width + width := by
  unfold startW
  have h1 := Int.emod_nonneg t (show width ≠ 0 by omega)
  have h2 := Int.emod_lt_of_pos t (show 0 < width by omega)
  omega
theorem rolled_ok {l : List (List Int)} {width : Int} (h : ¬ (width < 1 ∨ 1099511627776 < width)) (hg : ∀ i, i < l.length → goodT (rg (l.getD i []) 0)) : rolled l width = match foldW width [] l with
    | none => ([], 2)
    | some out => (out, 0) := by
  have hall : ∀ r ∈ l, goodT (rg r 0) := by
    intro r hr
    obtain ⟨i, hi, rfl⟩ := List.getElem_of_mem hr
    have := hg i hi
    rwa [List.getD_eq_getElem?_getD, List.getElem?_eq_getElem hi] at this
  unfold rolled
  rw [if_neg h, if_neg (fun hn => hn hall)]
theorem rolled_bad {l : List (List Int)} {width : Int} (h : ¬ (width < 1 ∨ 1099511627776 < width)) {i : Nat} (hi : i < l.length) (hg : ¬ goodT (rg (l.getD i []) 0)) : rolled l width = ([], 6) := by
  unfold rolled
  rw [if_neg h, if_pos]
  intro hall
  apply hg
  rw [List.getD_eq_getElem?_getD, List.getElem?_eq_getElem hi]
  exact hall _ (List.getElem_mem _)
theorem bothW_len (a b : List Int) : (bothW a b).length = 7 := rfl
theorem setT_len {r : List Int} (t : Int) (h : r.length = 7) : (setT r t).length = 7 := by
  unfold setT; simp [h]
theorem row7 (r : List Int) (h : r.length = 7) : ∃ a b c d e f g : Int, r = [a, b, c, d, e, f, g] := by
  match r, h with
  | [a, b, c, d, e, f, g], _ => exact ⟨a, b, c, d, e, f, g, rfl⟩
theorem drop_getD {l : List (List Int)} {k : Nat} (h : k < l.length) : l.drop k = l.getD k [] :: l.drop (k + 1) := by
  rw [List.getD_eq_getElem?_getD, List.getElem?_eq_getElem h]
  exact List.drop_eq_getElem_cons h
end Go.Gh
/-
  Two lists of rows in the order of their first numbers: merged, and inserted one by one, come to the same.
-/
namespace Go.Gh
set_option linter.unusedVariables false

section
variable (both : List Int → List Int → List Int) (big : List Int → Bool)
def mergeF : List (List Int) → List (List Int) → Option (List (List Int))
  | [], b => some b
  | x :: a, [] => some (x :: a)
  | x :: a, y :: b =>
    if rg x 0 < rg y 0 then (mergeF a (y :: b)).map (x :: ·)
    else if rg y 0 < rg x 0 then (mergeF (x :: a) b).map (y :: ·)
    else if big (both x y) then none else (mergeF a b).map (both x y :: ·)
termination_by a b => a.length + b.length
def insF : List (List Int) → List Int → List (List Int)
  | [], y => [y]
  | o :: out, y => if rg o 0 < rg y 0 then o :: insF out y else if rg o 0 = rg y 0 then both o y :: out else y :: o :: out
def insBig : List (List Int) → List Int → Bool
  | [], _ => false
  | o :: out, y => if rg o 0 < rg y 0 then insBig out y else if rg o 0 = rg y 0 then big (both o y) else false
def besF (out : List (List Int)) (bad : Bool) : List (List Int) → List (List Int) × Bool
  | [] => (out, bad)
  | y :: b => besF (insF both out y) (bad || insBig both big out y) b
end
def Asc (l : List (List Int)) : Prop := l.Pairwise fun x y => rg x 0 < rg y 0

section
variable {both : List Int → List Int → List Int} {big : List Int → Bool}
theorem merge_nil (a : List (List Int)) : mergeF both big a [] = some a := by
  cases a <;> rw [mergeF]
theorem merge_lt {x y : List Int} {a b : List (List Int)} (h : rg x 0 < rg y 0) : mergeF both big (x :: a) (y :: b) = (mergeF both big a (y :: b)).map (x :: ·) := by
  rw [mergeF, if_pos h]
theorem merge_gt {x y : List Int} {a b : List (List Int)} (h : rg y 0 < rg x 0) : mergeF both big (x :: a) (y :: b) = (mergeF both big (x :: a) b).map (y :: ·) := by
  rw [mergeF, if_neg (by omega), if_pos h]
theorem merge_eq {x y : List Int} {a b : List (List Int)} (h : rg x 0 = rg y 0) (hb : big (both x y) = false) : mergeF both big (x :: a) (y :: b) = (mergeF both big a b).map (both x y :: ·) := by
  rw [mergeF, if_neg (by omega), if_neg (by omega), hb]; rfl
theorem merge_big {x y : List Int} {a b : List (List Int)} (h : rg x 0 = rg y 0) (hb : big (both x y) = true) : mergeF both big (x :: a) (y :: b) = none := by
  rw [mergeF, if_neg (by omega), if_neg (by omega), hb]; rfl
theorem bes_bad (b : List (List Int)) : ∀ out, (besF both big out true b).2 = true := by
  induction b with
  | nil => intro out; rfl
  | cons y b ih => intro out; rw [besF, Bool.true_or]; exact ih _
theorem bes_front (b : List (List Int)) : ∀ (x : List Int) (a : List (List Int)) (bad : Bool), (∀ z ∈ b, rg x 0 < rg z 0) → besF both big (x :: a) bad b = (x :: (besF both big a bad b).1, (besF both big a bad b).2) := by
  induction b with
  | nil => intro x a bad _; rfl
  | cons y b ih =>
    intro x a bad h
    have hy := h y (by simp)
    rw [besF, besF, insF, if_pos hy, insBig, if_pos hy]
    exact ih _ _ _ fun z hz => h z (by simp [hz])
theorem bes_nil (b : List (List Int)) (h : Asc b) (bad : Bool) : besF both big [] bad b = (b, bad) := by
  induction b with
  | nil => rfl
  | cons y b ih =>
    have h' := List.pairwise_cons.1 h
    rw [besF, insF, insBig, Bool.or_false, bes_front b y [] bad h'.1, ih h'.2]
theorem bes_merge (hk : ∀ x y, rg (both x y) 0 = rg x 0) (n : Nat) : ∀ (a b : List (List Int)), a.length + b.length ≤ n → Asc a → Asc b → ∀ bad,
    (mergeF both big a b = none → (besF both big a bad b).2 = true) ∧ (∀ m, mergeF both big a b = some m → besF both big a bad b = (m, bad)) := by
  induction n with
  | zero =>
    intro a b hn _ _ bad
    obtain rfl : a = [] := List.length_eq_zero_iff.1 (by omega)
    obtain rfl : b = [] := List.length_eq_zero_iff.1 (by omega)
    rw [merge_nil]
    exact ⟨by simp, by intro m h; simp at h; subst h; rfl⟩
  | succ n ih =>
    intro a b hn ha hb bad
    match a, b with
    | [], b =>
      rw [mergeF, bes_nil b hb]
      exact ⟨by simp, by intro m h; simp at h; subst h; rfl⟩
    | x :: a, [] =>
      rw [merge_nil]
      exact ⟨by simp, by intro m h; simp at h; subst h; rfl⟩
    | x :: a, y :: b =>
      have ha' := List.pairwise_cons.1 ha
      have hb' := List.pairwise_cons.1 hb
      rw [List.length_cons, List.length_cons] at hn
      rcases Int.lt_trichotomy (rg x 0) (rg y 0) with h | h | h
      · obtain ⟨i1, i2⟩ := ih a (y :: b) (by rw [List.length_cons]; omega) ha'.2 hb bad
        have hall : ∀ z ∈ y :: b, rg x 0 < rg z 0 := by
          intro z hz
          rcases List.mem_cons.1 hz with h' | h'
          · rw [h']; exact h
          · have := hb'.1 z h'; omega
        rw [merge_lt h, bes_front _ x a bad hall]
        constructor
        · intro hn
          exact i1 (by simpa using hn)
        · intro m hm
          obtain ⟨m', h1, rfl⟩ := Option.map_eq_some_iff.1 hm
          rw [i2 m' h1]
      · have hall : ∀ z ∈ b, rg (both x y) 0 < rg z 0 := by
          intro z hz; rw [hk]; have := hb'.1 z hz; omega
        rw [besF, insF, if_neg (by omega), if_pos h, insBig, if_neg (by omega), if_pos h, bes_front b _ a _ hall]
        cases hbig : big (both x y) with
        | true =>
          rw [merge_big h hbig, Bool.or_true]
          exact ⟨fun _ => bes_bad b a, by intro m hm; simp at hm⟩
        | false =>
          obtain ⟨i1, i2⟩ := ih a b (by omega) ha'.2 hb'.2 bad
          rw [merge_eq h hbig, Bool.or_false]
          constructor
          · intro hn
            exact i1 (by simpa using hn)
          · intro m hm
            obtain ⟨m', h1, rfl⟩ := Option.map_eq_some_iff.1 hm
            rw [i2 m' h1]
      · obtain ⟨i1, i2⟩ := ih (x :: a) b (by rw [List.length_cons]; omega) ha hb'.2 bad
        rw [merge_gt h, besF, insF, if_neg (by omega), if_neg (by omega), insBig, if_neg (by omega), if_neg (by omega), Bool.or_false, bes_front b y (x :: a) bad hb'.1]
        constructor
        · intro hn
          exact i1 (by simpa using hn)
        · intro m hm
          obtain ⟨m', h1, rfl⟩ := Option.map_eq_some_iff.1 hm
          rw [i2 m' h1]
/-- What comes of it: the list, and an error's number (2, where a window counts too much or there are more than 1000). -/
def joinR (both : List Int → List Int → List Int) (big : List Int → Bool) (a b : List (List Int)) : List (List Int) × Int :=
  match mergeF both big a b with
  | none => ([], 2)
  | some m => if 1000 < m.length then ([], 2) else (m, 0)
def besideR (both : List Int → List Int → List Int) (big : List Int → Bool) (a b : List (List Int)) : List (List Int) × Int :=
  if (besF both big a false b).2 = true ∨ 1000 < (besF both big a false b).1.length then ([], 2) else ((besF both big a false b).1, 0)
theorem join_beside (hk : ∀ x y, rg (both x y) 0 = rg x 0) {a b : List (List Int)} (ha : Asc a) (hb : Asc b) : besideR both big a b = joinR both big a b := by
  obtain ⟨h1, h2⟩ := bes_merge (big := big) hk (a.length + b.length) a b (Nat.le_refl _) ha hb false
  unfold besideR joinR
  cases hm : mergeF both big a b with
  | none => rw [if_pos (Or.inl (h1 hm))]
  | some m =>
    rw [h2 m hm]
    simp only [Bool.false_eq_true, false_or]
/-- How an insertion goes, by a place. -/
theorem ins_at (both : List Int → List Int → List Int) (p : List (List Int)) : ∀ (q : List (List Int)) (y : List Int), (∀ o ∈ p, rg o 0 < rg y 0) → (∀ o r, q = o :: r → ¬ rg o 0 < rg y 0) →
    insF both (p ++ q) y = p ++ (match q with | [] => [y] | o :: r => if rg o 0 = rg y 0 then both o y :: r else y :: o :: r) := by
  induction p with
  | nil =>
    intro q y _ hq
    cases q with
    | nil => rfl
    | cons o r => rw [List.nil_append, List.nil_append, insF, if_neg (hq o r rfl)]
  | cons x p ih =>
    intro q y hp hq
    rw [List.cons_append, insF, if_pos (hp x (by simp)), ih q y (fun o ho => hp o (by simp [ho])) hq]
    rfl
theorem insBig_at (both : List Int → List Int → List Int) (big : List Int → Bool) (p : List (List Int)) : ∀ (q : List (List Int)) (y : List Int), (∀ o ∈ p, rg o 0 < rg y 0) → (∀ o r, q = o :: r → ¬ rg o 0 < rg y 0) →
    insBig both big (p ++ q) y = (match q with | [] => false | o :: r => if rg o 0 = rg y 0 then big (both o y) else false) := by
  induction p with
  | nil =>
    intro q y _ hq
    cases q with
    | nil => rfl
    | cons o r => rw [List.nil_append, insBig, if_neg (hq o r rfl)]
  | cons x p ih =>
    intro q y hp hq
    rw [List.cons_append, insBig, if_pos (hp x (by simp)), ih q y (fun o ho => hp o (by simp [ho])) hq]
end
theorem asc_of {l : List (List Int)} (h : ∀ i, i + 1 < l.length → rg (l.getD i []) 0 < rg (l.getD (i + 1) []) 0) : Asc l := by
  induction l with
  | nil => exact List.Pairwise.nil
  | cons x l ih =>
    have hl : Asc l := ih fun i hi => by
      have := h (i + 1) (by rw [List.length_cons]; omega)
      rwa [List.getD_cons_succ, List.getD_cons_succ] at this
    refine List.pairwise_cons.2 ⟨?_, hl⟩
    intro y hy
    cases l with
    | nil => cases hy
    | cons z l =>
      have h0 := h 0 (by simp)
      rw [List.getD_cons_zero, List.getD_cons_succ, List.getD_cons_zero] at h0
      rcases List.mem_cons.1 hy with h' | h'
      · rw [h']; exact h0
      · have := (List.pairwise_cons.1 hl).1 y h'; omega
end Go.Gh
/-
  Words shared by the walks, part four: results that are a list of rows and an error's number; heads and tails.
-/
namespace Go.Gh
open Go.RowKit
set_option linter.unusedVariables false

def RowPost (T : TypeId) (k : Nat) (w : World) (r : List (List Int) × Int) (e : Ending) (w' : World) : Prop := ∃ v', e = .returned (.tuple #[v', .int .i64 r.2]) ∧ w'.ownsRow w.heap.size T k v' r.1.length (rowCells r.1) ∧ Below w.heap.size w w' ∧ RowsK k r.1 ∧ r.1.length ≤ 1000
theorem rowPost_nil {T : TypeId} {k : Nat} {w w' : World} {c : Int} {r : List (List Int) × Int} (h : r = ([], c)) (hb : Below w.heap.size w w') : RowPost T k w r (.returned (.tuple #[.slice none 0 0, .int .i64 c])) w' := by
  subst h
  exact ⟨_, rfl, World.ownsRow_nil _ _ _ _, hb, by intro r hr; simp at hr, by simp⟩
theorem rowPost_below {T : TypeId} {k : Nat} {w w1 w' : World} {r : List (List Int) × Int} {e : Ending} (h : RowPost T k w1 r e w') (hb : Below w.heap.size w w1) : RowPost T k w r e w' := by
  obtain ⟨v, h1, h2, h3, h4, h5⟩ := h
  exact ⟨v, h1, own_mono h2 hb.size, hb.trans (h3.mono hb.size), h4, h5⟩
theorem tail_spec {w : World} {k q c b off : Nat} {x : List Int} {a : List (List Int)} (h : Sl w k (.slice (some ⟨b, off, none⟩) (q + 1) c) (q + 1) (rowCells (x :: a))) (hx : x.length = k) :
    (c = 1 → Sl w k (.slice (some ⟨b, off, none⟩) q 0) q (rowCells a)) ∧ (¬ c = 1 → Sl w k (.slice (some ⟨b, off + k, none⟩) q (c - 1)) q (rowCells a)) := by
  have := sl_sliced h (show 1 ≤ q + 1 by omega) (Nat.le_refl _)
  rw [Nat.one_mul, rowCells_tail hx, Nat.add_sub_cancel] at this
  have hl : (rowCells a).length = q * k := by
    obtain ⟨_, _, _, _, _, _, h5, _⟩ := h
    unfold rowCells at h5 ⊢
    rw [List.flatMap_cons, List.length_append, List.length_map, hx, Nat.add_mul] at h5
    omega
  rw [List.take_of_length_le (by omega)] at this
  unfold sliced at this
  constructor
  · intro hc
    subst hc
    simpa using this
  · intro hc
    rw [if_neg hc] at this
    simpa [addr_add] using this
/-- Two lists as they are merged: what is left of each, and what has been put out. -/
structure MRel (T : TypeId) (k : Nat) (both : List Int → List Int → List Int) (big : List Int → Bool) (l m : List (List Int)) (B p q r : Nat) (w wr : World) (ua ub u : Value) : Prop where
  ex : ∃ a b acc, Sl w k ua p (rowCells a) ∧ a.length = p ∧ RowsK k a ∧ Sl w k ub q (rowCells b) ∧ b.length = q ∧ RowsK k b ∧ wr.ownsRow B T k u r (rowCells acc) ∧ acc.length = r ∧ RowsK k acc ∧ mergeF both big l m = (mergeF both big a b).map (acc ++ ·)
theorem map_push (o : Option (List (List Int))) (x : List Int) (acc : List (List Int)) : (o.map (x :: ·)).map (acc ++ ·) = o.map ((acc ++ [x]) ++ ·) := by
  cases o <;> simp
theorem RowsK.head {k : Nat} {x : List Int} {a : List (List Int)} (h : RowsK k (x :: a)) : x.length = k := h x (by simp)
theorem rows_snoc (acc : List (List Int)) (r : List Int) : rowCells acc ++ r.map (Value.int .i64) = rowCells (acc ++ [r]) := by
  rw [rowCells_append, rowCells_one]
section
variable {T : TypeId} {k : Nat} {both : List Int → List Int → List Int} {big : List Int → Bool} {l m a b acc : List (List Int)} {B p q r : Nat} {w wr : World} {ua ub u : Value} {x y : List Int}
theorem mrel_a (hsa : Sl w k ua p (rowCells a)) (hla : (x :: a).length = p + 1) (hra : RowsK k (x :: a)) (hsb : Sl w k ub q (rowCells b)) (hlb : b.length = q) (hrb : RowsK k b) (hown : wr.ownsRow B T k u (r + 1) (rowCells acc ++ x.map (Value.int .i64))) (hlc : acc.length = r) (hrc : RowsK k acc)
    (hf : mergeF both big l m = (mergeF both big (x :: a) b).map (acc ++ ·)) (hlt : ∀ y b', b = y :: b' → rg x 0 < rg y 0) : MRel T k both big l m B p q (r + 1) w wr ua ub u := by
  refine ⟨a, b, acc ++ [x], hsa, by simpa using hla, hra.tail, hsb, hlb, hrb, ?_, by simp [hlc], hrc.snoc hra.head, ?_⟩
  · rw [← rows_snoc]; exact hown
  · rw [hf, ← map_push]
    cases b with
    | nil => rw [merge_nil, merge_nil]; rfl
    | cons y b' => rw [merge_lt (hlt y b' rfl)]
theorem mrel_b (hsa : Sl w k ua p (rowCells a)) (hla : a.length = p) (hra : RowsK k a) (hsb : Sl w k ub q (rowCells b)) (hlb : (y :: b).length = q + 1) (hrb : RowsK k (y :: b)) (hown : wr.ownsRow B T k u (r + 1) (rowCells acc ++ y.map (Value.int .i64))) (hlc : acc.length = r) (hrc : RowsK k acc)
    (hf : mergeF both big l m = (mergeF both big a (y :: b)).map (acc ++ ·)) (hlt : ∀ x a', a = x :: a' → rg y 0 < rg x 0) : MRel T k both big l m B p q (r + 1) w wr ua ub u := by
  refine ⟨a, b, acc ++ [y], hsa, hla, hra, hsb, by simpa using hlb, hrb.tail, ?_, by simp [hlc], hrc.snoc hrb.head, ?_⟩
  · rw [← rows_snoc]; exact hown
  · rw [hf, ← map_push]
    cases a with
    | nil => rw [mergeF, mergeF]; rfl
    | cons x a' => rw [merge_gt (hlt x a' rfl)]
theorem mrel_ab (hsa : Sl w k ua p (rowCells a)) (hla : (x :: a).length = p + 1) (hra : RowsK k (x :: a)) (hsb : Sl w k ub q (rowCells b)) (hlb : (y :: b).length = q + 1) (hrb : RowsK k (y :: b)) (hown : wr.ownsRow B T k u (r + 1) (rowCells acc ++ (both x y).map (Value.int .i64))) (hlc : acc.length = r) (hrc : RowsK k acc)
    (hbk : (both x y).length = k) (hf : mergeF both big l m = (mergeF both big (x :: a) (y :: b)).map (acc ++ ·)) (heq : rg x 0 = rg y 0) (hbig : big (both x y) = false) : MRel T k both big l m B p q (r + 1) w wr ua ub u := by
  refine ⟨a, b, acc ++ [both x y], hsa, by simpa using hla, hra.tail, hsb, by simpa using hlb, hrb.tail, ?_, by simp [hlc], hrc.snoc hbk, ?_⟩
  · rw [← rows_snoc]; exact hown
  · rw [hf, ← map_push, merge_eq heq hbig]
end
theorem cons_of {l : List (List Int)} {n : Nat} (h : l.length = n + 1) : ∃ x r, l = x :: r := by
  cases l with
  | nil => simp at h
  | cons x r => exact ⟨x, r, rfl⟩
end Go.Gh
