/-
  Words shared by the walks of this seat: a slice's value reads as a list of cells, and what that gives.
-/
import Derived.WalkKit
import Derived.ProofKit
import Derived.Below
import Derived.Lib.Hide
import Derived.Deep.Slices
import Derived.OwnWalk
import Derived.Handy
import Derived.WalkSmall
import Derived.OpenShut
import Derived.ShutString
import Derived.ChangeOld
import Derived.SizedLaws
import Derived.Deep.AppendLies
import Derived.Deep.RegionLaw
import Derived.Deep.Cut
import Derived.Deep.DeepCutAuto
import Derived.Deep.QuietTactic
import Derived.BigQuiet
import Derived.Outline
import Derived.WalkSpells
import Derived.Deep.Fields
import Derived.ChangeSame
namespace Go.Gh
open Go.RowKit Go.ChangeShapes Go.WideShapes Go.ChangeAt
set_option linter.unusedVariables false

theorem ret_int {k : IntKind} {a b : Int} (h : a = b) : Ending.returned (.int k a) = .returned (.int k b) := by rw [h]
theorem ret_str {a b : ByteArray} (h : a = b) : Ending.returned (.string a) = .returned (.string b) := by rw [h]
theorem ret_bool {a b : Bool} (h : a = b) : Ending.returned (.bool a) = .returned (.bool b) := by rw [h]

theorem wf_u8 {z : Int} (h : (Lit.int .u8 z).wf = true) : 0 ≤ z ∧ z < 256 := by
  simp [Lit.wf, IntKind.min, IntKind.max, IntKind.signed, IntKind.bits] at h
  omega
theorem wf_u64 {z : Int} (h : (Lit.int .u64 z).wf = true) : 0 ≤ z ∧ z < 18446744073709551616 := by
  simp [Lit.wf, IntKind.min, IntKind.max, IntKind.signed, IntKind.bits] at h
  omega
theorem wf_i64 {z : Int} (h : (Lit.int .i64 z).wf = true) : -9223372036854775808 ≤ z ∧ z < 9223372036854775808 := by
  simp [Lit.wf, IntKind.min, IntKind.max, IntKind.signed, IntKind.bits] at h
  omega

/-- The slice value v has n elements of 'size' cells each, and they are the cells xs. -/
def Sl (w : World) (size : Nat) (v : Value) (n : Nat) (xs : List Value) : Prop :=
  ∃ ao cap, v = .slice ao n cap ∧ n ≤ cap ∧ cap ≤ maxLen ∧ (ao = none → cap = 0) ∧ xs.length = n * size ∧
    (0 < n → ∃ b off, ao = some ⟨b, off, none⟩ ∧ ∀ i u, xs[i]? = some u → w.cell? ⟨b, off + i, none⟩ = some u)

theorem addr_add (b off i : Nat) : (⟨b, off, none⟩ : Addr).add i = ⟨b, off + i, none⟩ := by
  unfold Addr.add; split <;> simp_all

theorem cell_lt {w : World} {b o : Nat} {s : Option Nat} {u : Value} (h : w.cell? ⟨b, o, s⟩ = some u) : b < w.heap.size := by
  rcases Nat.lt_or_ge b w.heap.size with h' | h'
  · exact h'
  · simp [World.cell?, Array.getElem?_eq_none h'] at h

/-- What a reading gives stays as it is in a world that keeps what was there. -/
theorem Sl.below {w w' : World} {size n : Nat} {v : Value} {xs : List Value} (h : Sl w size v n xs) (hb : Below w.heap.size w w') : Sl w' size v n xs := by
  obtain ⟨ao, cap, h1, h2, h3, h4, h5, h6⟩ := h
  refine ⟨ao, cap, h1, h2, h3, h4, h5, fun hn => ?_⟩
  obtain ⟨b, off, ha, hc⟩ := h6 hn
  refine ⟨b, off, ha, fun i u hu => ?_⟩
  have := hc i u hu
  exact (hb.cell (p := ⟨b, off + i, none⟩) (cell_lt this)).trans this

theorem own_sl {w : World} {base : Nat} {e : TypeId} {size : Nat} {v : Value} {n : Nat} {xs : List Value} (h : w.ownsRow base e size v n xs) : Sl w size v n xs := by
  obtain ⟨hl, h | ⟨g, cap, cur, rfl, hb, hg, hn, hm, hs, ht⟩⟩ := h
  · obtain ⟨rfl, rfl⟩ := h
    exact ⟨none, 0, rfl, Nat.le_refl _, Nat.zero_le _, fun _ => rfl, hl, fun h => absurd h (Nat.lt_irrefl _)⟩
  · refine ⟨_, cap, rfl, hn, hm, fun h => by simp at h, hl, fun _ => ⟨g, 0, rfl, fun i u hu => ?_⟩⟩
    have h : w.ownsRow base e size (.slice (some ⟨g, 0, none⟩) n cap) n xs := ⟨hl, .inr ⟨g, cap, cur, rfl, hb, hg, hn, hm, hs, ht⟩⟩
    have := h.cells (g := g) rfl i u hu
    rwa [addr_add] at this

section
variable {H : Type} {enc : TypeId × Value → H} {P : Program} {W : World} {base : Nat} {spare : Nat → Bool} {held : Bool}

/-- A slice of integers that came in, as 'Sl'. -/
theorem sl_ints {t e : TypeId} {k : IntKind} {fuel : Nat} {v : Value} {x : DataW H × List MemPlace} (ht : P.underlying t = some (.slice e)) (he : P.underlying e = some (.int k)) (hc : P.cellsOf e = 1)
    (h : DataW.trod enc P W base spare held fuel t [v] = some x) (hs : ∀ n ∈ x.1.weights P t, n ≤ reachBytes) :
    ∃ (n : Nat) (zs : List Int), Sl W 1 v n (zs.map (Value.int k)) ∧ (∀ z ∈ zs, (Lit.int k z).wf = true) ∧ n * P.bytesOf e ≤ reachBytes := by
  rcases open_ints ht he hc h with ⟨hcs, _⟩ | ⟨a, len, cap, zs, hcs, _, hl, hm, hz, hx, hcell, hwz⟩
  · obtain rfl : v = .slice none 0 0 := by simpa using hcs
    exact ⟨0, [], ⟨none, 0, rfl, Nat.le_refl _, Nat.zero_le _, fun _ => rfl, by simp, fun h => absurd h (Nat.lt_irrefl _)⟩, by simp, by simp⟩
  · obtain rfl : v = .slice (some a) len cap := by simpa using hcs
    have hlz : len ≤ zs.length := by rw [hz]; split <;> omega
    refine ⟨len, zs.take len, ⟨some a, cap, rfl, hl, hm, fun h => by simp at h, by simp; omega, fun hn => ?_⟩, fun z hz' => hwz z (List.mem_of_mem_take hz'), ?_⟩
    · have h0 := hcell 0 (by omega)
      obtain ⟨b, off, spot⟩ := a
      have hs := World.cell?_spot h0
      simp [Addr.add] at hs
      subst hs
      refine ⟨b, off, rfl, fun i u hu => ?_⟩
      have hi : i < len := by
        rcases Nat.lt_or_ge i len with h' | h'
        · exact h'
        · rw [List.getElem?_eq_none (by simp; omega)] at hu; simp at hu
      have := hcell i (by omega)
      rw [addr_add] at this
      rw [this]
      have hi' : i < zs.length := by omega
      simp [List.getElem?_map, hi, List.getElem?_eq_getElem hi'] at hu
      rw [← hu, List.getD_eq_getElem?_getD, List.getElem?_eq_getElem hi']
      rfl
    · have := hs ((lits (H := H) k (zs.take len)).length + (lits (H := H) k (zs.drop len)).length |>.mul (P.bytesOf e)) (by rw [hx]; simp [DataW.weights, ht])
      refine Nat.le_trans (Nat.mul_le_mul_right _ ?_) this
      simp [lits]
      omega
end

/-- An element of a slice of integers: its cell. -/
theorem Sl.int {w : World} {ao : Option Addr} {n c : Nat} {k : IntKind} {zs : List Int} (h : Sl w 1 (.slice ao n c) n (zs.map (Value.int k))) {i : Nat} (hi : i < n) :
    ∃ b off, ao = some ⟨b, off, none⟩ ∧ w.cell? ⟨b, off + i, none⟩ = some (.int k (zs.getD i 0)) := by
  obtain ⟨ao', cap, h1, h2, h3, h4, h5, h6⟩ := h
  simp at h1 h5
  obtain ⟨rfl, rfl⟩ := h1
  obtain ⟨b, off, rfl, hc⟩ := h6 (by omega)
  refine ⟨b, off, rfl, hc i _ ?_⟩
  have : i < zs.length := by omega
  simp [this]

/-- An element of a slice of bytes: its cell, its bounds; its name is hidden. -/
theorem Sl.byte {w : World} {ao : Option Addr} {n c : Nat} {zs : List Int} (h : Sl w 1 (.slice ao n c) n (zs.map (Value.int .u8))) (hl : ∀ z ∈ zs, (Lit.int .u8 z).wf = true) {i : Nat} (hi : i < n) :
    ∃ b off z, ao = some ⟨b, off, none⟩ ∧ w.cell? ⟨b, off + i, none⟩ = some (.int .u8 z) ∧ 0 ≤ z ∧ z < 256 ∧ Hid (zs.getD i 0 = z) := by
  obtain ⟨b, off, ha, hc⟩ := h.int hi
  obtain ⟨_, _, _, _, _, _, h5, _⟩ := h
  have hi' : i < zs.length := by simp at h5; omega
  have := wf_u8 (hl (zs.getD i 0) (by rw [List.getD_eq_getElem?_getD, List.getElem?_eq_getElem hi']; exact List.getElem_mem _))
  exact ⟨b, off, _, ha, hc, this.1, this.2, Lib.hid rfl⟩

theorem Sl.shape {w : World} {v : Value} {n size : Nat} {xs : List Value} (h : Sl w size v n xs) : ∃ ao c, v = .slice ao n c ∧ n ≤ c ∧ c ≤ 9223372036854775807 ∧ xs.length = n * size := by
  obtain ⟨ao, cap, rfl, h2, h3, h4, h5, h6⟩ := h
  exact ⟨ao, cap, rfl, h2, h3, h5⟩


/-! ### What an argument that came in is known as -/
def IsInt (k : IntKind) (w : World) (v : Value) : Prop := ∃ n, v = .int k n ∧ (Lit.int k n).wf = true
def IsInts (k : IntKind) (w : World) (v : Value) : Prop := ∃ (n : Nat) (zs : List Int), Sl w 1 v n (zs.map (Value.int k)) ∧ (∀ z ∈ zs, (Lit.int k z).wf = true) ∧ n ≤ 140737488355328
def IsString (w : World) (v : Value) : Prop := ∃ s : ByteArray, v = .string s ∧ s.size ≤ 140737488355328

theorem reach_le {n b : Nat} (h : n * b ≤ reachBytes) (hb : 0 < b) : n ≤ 140737488355328 := by
  have h1 : reachBytes ≤ 140737488355328 := by decide
  have h2 : n * 1 ≤ n * b := Nat.mul_le_mul_left n hb
  omega

section
variable {H : Type} {enc : TypeId × Value → H} {P : Program} {W : World} {base b0 : Nat} {r : Reach} {spare : Nat → Bool} {held : Bool} {t e : TypeId} {k : IntKind} {v : Value} {d : DataW H} {ps : List MemPlace}
theorem rd_int {fuel : Nat} {x : DataW H × List MemPlace} (ht : P.underlying t = some (.int k)) (h : DataW.trod enc P W base spare held fuel t [v] = some x) : IsInt k W v := by
  obtain ⟨n, h1, _, hw⟩ := DataW.trod_int ht h
  exact ⟨n, by simpa using h1, hw⟩
theorem rd_ints {fuel : Nat} {x : DataW H × List MemPlace} (ht : P.underlying t = some (.slice e)) (he : P.underlying e = some (.int k)) (hc : P.cellsOf e = 1) (hb : 0 < P.bytesOf e)
    (h : DataW.trod enc P W base spare held fuel t [v] = some x) (hs : ∀ n ∈ x.1.weights P t, n ≤ reachBytes) : IsInts k W v := by
  obtain ⟨n, zs, h1, h2, h3⟩ := sl_ints ht he hc h hs
  exact ⟨n, zs, h1, h2, reach_le h3 hb⟩
theorem isInt_of (ht : P.underlying t = some (.int k)) (hv : Value.okWide P W r b0 t v) (hd : DataW.Trod enc P W base spare held t v d ps) (hs : ∀ n ∈ d.weights P t, n ≤ reachBytes) : IsInt k W v := by
  obtain ⟨n, h1, _, _, h2⟩ := open_int ht hv hd
  exact ⟨n, h1, h2⟩
theorem isInts_of (ht : P.underlying t = some (.slice e)) (he : P.underlying e = some (.int k)) (hc : P.cellsOf e = 1) (hb : 0 < P.bytesOf e) (hv : Value.okWide P W r b0 t v) (hd : DataW.Trod enc P W base spare held t v d ps) (hs : ∀ n ∈ d.weights P t, n ≤ reachBytes) : IsInts k W v := by
  obtain ⟨a, l, c, rfl⟩ := okWide_slice ht hv
  obtain ⟨fuel, hf⟩ := hd
  exact rd_ints ht he hc hb (by simpa [Value.cells] using hf) hs
theorem isString_of (ht : P.underlying t = some .string) (hv : Value.okWide P W r b0 t v) (hd : DataW.Trod enc P W base spare held t v d ps) (hs : ∀ n ∈ d.weights P t, n ≤ reachBytes) : IsString W v := by
  obtain ⟨s, rfl, rfl, _, _⟩ := Go.ChangeMaps.open_string ht hv hd
  have := hs s.data.toList.length (by simp [DataW.weights])
  have h1 : reachBytes ≤ 140737488355328 := by decide
  exact ⟨s, rfl, by simp at this; have e : s.size = s.data.size := rfl; omega⟩
theorem trod_lt' (hd : DataW.Trod enc P W base spare held t v d ps) : ∀ x ∈ ps, x.block < W.heap.size := by
  obtain ⟨m, hm⟩ := hd
  exact DataW.trod_lt m _ _ _ hm
theorem sized_at {ts : List TypeId} {ds : List (DataW H)} (h : (DataW.weightsEach P ts ds).all (fun n => decide (n ≤ reachBytes)) = true) (j : Nat) {t : TypeId} {d : DataW H} (ht : ts[j]? = some t) (hd : ds[j]? = some d) : ∀ n ∈ d.weights P t, n ≤ reachBytes := by
  intro n hn
  have := List.all_eq_true.1 h _ (DataW.weights_mem_each ht hd n hn)
  simpa using this
end

/-! ### append of one element to a row of the call's own -/
structure Elem (P : Program) (t e : TypeId) (size bytes : Nat) : Prop where
  und : P.underlying t = some (.slice e)
  info : ∃ i z, P.info? e = some i ∧ i.zero = some z ∧ i.size = size ∧ i.bytes = bytes ∧ z.cells.size = size
  pos : 0 < size

theorem elem_of {P : Program} {t e : TypeId} {z : Value} {size bytes : Nat} (hu : P.underlying t = some (.slice e)) (h : (P.info? e).map (fun i => (i.zero, i.size, i.bytes)) = some (some z, size, bytes)) (hz : z.cells.size = size) (hp : 0 < size) : Elem P t e size bytes := by
  obtain ⟨i, h1, h2, h3, h4⟩ := info_parts h
  exact ⟨hu, ⟨i, z, h1, h2, h3, h4, hz⟩, hp⟩

theorem fresh_cells (W : World) (cells : List Value) (e : TypeId) (j : Nat) (u : Value) (h : cells[j]? = some u) : (W.alloc (.cells cells.toArray e)).cell? ((⟨W.heap.size, 0, none⟩ : Addr).add j) = some u := by
  rw [addr_add, cell_of_row _ _ _ _ e (0, 0) (heap_alloc_new W _)]
  simpa using h

theorem grown_trans {a b c : World} {row : Option Nat} (h : a.grownBy b row) (k : b.grownBy c row) : a.grownBy c row :=
  ⟨k.os.trans h.os, k.tape.trans h.tape, k.output.trans h.output, Nat.le_trans h.size k.size, fun j hj hne => (k.block j (Nat.lt_of_lt_of_le hj h.size) hne).trans (h.block j hj hne)⟩

theorem append1 {P : Program} {ops : Array Oper} {rest : List Oper} {o : Oper} {a : Act} {Q : Exit → Act → World → Prop} {w0 W : World} {B : Nat} {t e : TypeId} {size bytes n : Nat} {xs : List Value} {v : Value} (cells : List Value)
    (el : Elem P t e size bytes) (hgd : o.guard = none) (s x : Operand) (ho : o.op = .call { callee := .builtin .append, args := #[s, x], argTypes := #[t, t] })
    (hown : W.ownsRow B e size v n xs) (hbel : Below B w0 W) (hB : B ≤ W.heap.size) (hs : a.eval s = v) (hx : a.eval x = .slice (some ⟨W.heap.size, 0, none⟩) 1 1)
    (hl : cells.length = size) (h1 : ∀ u ∈ cells, u.oneCell' = true) (h47 : (n + 1) * bytes ≤ 140737488355328) (h63 : n + 1 ≤ 9223372036854775807)
    (h : ∀ v' w', w'.ownsRow B e size v' (n + 1) (xs ++ cells) → Below B w0 w' → W.grownBy w' v.ownBlock → wpList P ops Q rest (a.put o.dst v') w') :
    wpList P ops Q (o :: rest) a (W.alloc (.cells cells.toArray e)) := by
  obtain ⟨i, z, h2, h3, h4, h5, h6⟩ := el.info
  refine wpList_append_own _ hgd s x t ho B e i z size bytes el.und h2 h3 h4 h5 h6 el.pos v n xs hs (hown.alloc _) ⟨W.heap.size, 0, none⟩ 1 1 cells hx (by rw [Nat.one_mul]; exact hl) (fresh_cells W cells e) h1 (by unfold maxLen; exact h63) h47 (by simp; omega) ?_
  intro v' w' hown' hg _
  refine h v' w' hown' ?_ ?_
  · refine Below.grown (hbel.alloc hB _) hg (by simp; omega) ?_
    intro k hk
    exact (hown.lt k hk).1
  · exact grown_trans (World.grownBy_alloc W _ _) hg

theorem one_all (u : Value) (h : u.oneCell' = true) : ∀ x ∈ [u], x.oneCell' = true := by
  intro x hx; simp at hx; subst hx; exact h
theorem ret_eq {a b : Value} (h : a = b) : Ending.returned a = .returned b := by rw [h]

theorem own_build (W : World) {B : Nat} {e : TypeId} {size n : Nat} (cells : List Value) (hB : B ≤ W.heap.size) (hl : cells.length = n * size) (hn : n ≤ 9223372036854775807) :
    (W.alloc (.cells cells.toArray e)).ownsRow B e size (.slice (some ⟨W.heap.size, 0, none⟩) n n) n cells :=
  ⟨hl, .inr ⟨W.heap.size, n, cells.toArray, rfl, hB, heap_alloc_new W _, Nat.le_refl _, hn, by simpa using hl, by rw [List.take_of_length_le (by simp; omega)]⟩⟩

theorem own_below {w w' : World} {B : Nat} {e : TypeId} {size : Nat} {v : Value} {n : Nat} {xs : List Value} (h : w.ownsRow B e size v n xs) (hb : Below w.heap.size w w') : w'.ownsRow B e size v n xs := by
  refine ⟨h.1, ?_⟩
  rcases h.2 with hn | ⟨g, cap, cur, rfl, hb', hgg, rest⟩
  · exact .inl hn
  · refine .inr ⟨g, cap, cur, rfl, hb', ?_, rest⟩
    rw [hb.block g (Array.getElem?_eq_some_iff.1 hgg).1]
    exact hgg
theorem own_mono {w : World} {B B' : Nat} {e : TypeId} {size : Nat} {v : Value} {n : Nat} {xs : List Value} (h : w.ownsRow B e size v n xs) (hb : B' ≤ B) : w.ownsRow B' e size v n xs := by
  refine ⟨h.1, ?_⟩
  rcases h.2 with hn | ⟨g, cap, cur, rfl, hb', rest⟩
  · exact .inl hn
  · exact .inr ⟨g, cap, cur, rfl, Nat.le_trans hb hb', rest⟩
theorem own_some {w : World} {B : Nat} {e : TypeId} {size : Nat} {v : Value} {n : Nat} {xs : List Value} (h : w.ownsRow B e size v n xs) (hn : 0 < n) : ∃ g cap, v = .slice (some ⟨g, 0, none⟩) n cap ∧ B ≤ g ∧ g < w.heap.size ∧ n ≤ cap ∧ cap ≤ 9223372036854775807 ∧ ∀ j u, xs[j]? = some u → w.cell? ⟨g, j, none⟩ = some u := by
  have h0 := h
  rcases h.2 with ⟨rfl, hz⟩ | ⟨g, cap, cur, rfl, hb', hgg, h1, h2, h3, h4⟩
  · omega
  · refine ⟨g, cap, rfl, hb', (Array.getElem?_eq_some_iff.1 hgg).1, h1, h2, fun j u hu => ?_⟩
    have := h0.cells (g := g) rfl j u hu
    rw [addr_add] at this
    simpa using this

/-- append of a slice that is not empty to a row of the call's own. -/
theorem appendN {P : Program} {ops : Array Oper} {rest : List Oper} {o : Oper} {a : Act} {Q : Exit → Act → World → Prop} {w0 W : World} {B : Nat} {t e : TypeId} {size bytes n m c b off : Nat} {xs news : List Value} {v : Value}
    (el : Elem P t e size bytes) (hgd : o.guard = none) (s x : Operand) (ho : o.op = .call { callee := .builtin .append, args := #[s, x], argTypes := #[t, t] })
    (hown : W.ownsRow B e size v n xs) (hbel : Below B w0 W) (hB : B ≤ W.heap.size) (hs : a.eval s = v) (hx : a.eval x = .slice (some ⟨b, off, none⟩) m c)
    (hl : news.length = m * size) (hnews : ∀ j u, news[j]? = some u → W.cell? ⟨b, off + j, none⟩ = some u) (h1 : ∀ u ∈ news, u.oneCell' = true) (h47 : (n + m) * bytes ≤ 140737488355328) (h63 : n + m ≤ 9223372036854775807)
    (h : ∀ v' w', w'.ownsRow B e size v' (n + m) (xs ++ news) → Below B w0 w' → W.grownBy w' v.ownBlock → wpList P ops Q rest (a.put o.dst v') w') :
    wpList P ops Q (o :: rest) a W := by
  obtain ⟨i, z, h2, h3, h4, h5, h6⟩ := el.info
  refine wpList_append_own _ hgd s x t ho B e i z size bytes el.und h2 h3 h4 h5 h6 el.pos v n xs hs hown ⟨b, off, none⟩ m c news hx hl (fun j u hu => by rw [addr_add]; exact hnews j u hu) h1 (by unfold maxLen; exact h63) h47 hB ?_
  intro v' w' hown' hg _
  refine h v' w' hown' ?_ hg
  refine Below.grown hbel hg hB ?_
  intro k hk
  exact (hown.lt k hk).1

/-! ### bytes as a string -/
def bstr (l : List Int) : ByteArray := ⟨(l.map fun z => UInt8.ofNat z.toNat).toArray⟩
theorem foldl_push (l : List Int) : ∀ (s : ByteArray), l.foldl (fun r n => r.push (UInt8.ofNat n.toNat)) s = ⟨s.data ++ (l.map fun z => UInt8.ofNat z.toNat).toArray⟩ := by
  induction l with
  | nil => intro s; simp
  | cons z l ih =>
    intro s
    rw [List.foldl_cons, ih]
    simp [ByteArray.push]
theorem bstr_inj {l l' : List Int} (h1 : ∀ z ∈ l, (Lit.int .u8 z).wf = true) (h2 : ∀ z ∈ l', (Lit.int .u8 z).wf = true) (h : bstr l = bstr l') : l = l' := by
  have h : l.map (fun z => UInt8.ofNat z.toNat) = l'.map (fun z => UInt8.ofNat z.toNat) := by
    have := congrArg (fun b : ByteArray => b.data.toList) h
    simpa [bstr] using this
  induction l generalizing l' with
  | nil => cases l' with
    | nil => rfl
    | cons b l' => simp at h
  | cons a l ih => cases l' with
    | nil => simp at h
    | cons b l' =>
      simp only [List.map_cons, List.cons.injEq] at h
      have ha := wf_u8 (h1 a (by simp))
      have hb := wf_u8 (h2 b (by simp))
      have e := congrArg UInt8.toNat h.1
      rw [UInt8.toNat_ofNat', UInt8.toNat_ofNat'] at e
      have : a = b := by omega
      subst this
      rw [ih (fun z hz => h1 z (by simp [hz])) (fun z hz => h2 z (by simp [hz])) (by rename_i h0; exact congrArg (fun l : List UInt8 => ByteArray.mk l.toArray) h.2) h.2]

theorem run_bytes {P : Program} {w : World} {v : Value} {n : Nat} {l : List Int} {src dst e : TypeId} (hs : P.underlying src = some (.slice e)) (he : P.underlying e = some (.int .u8)) (hd : P.underlying dst = some .string)
    (hv : Sl w 1 v n (l.map (Value.int .u8))) : (convert src dst v).run P w = .ok (.string (bstr l)) w := by
  obtain ⟨ao, c, rfl, h1, h2, h3⟩ := hv.shape
  rw [run_convert_bytes_string w src dst e ao n c hs he hd]
  have hln : l.length = n := by simpa using h3
  cases ao with
  | none =>
    have : n = 0 := by
      rcases Nat.eq_zero_or_pos n with h | h
      · exact h
      · obtain ⟨ao', cap, h1, _, _, _, _, h6⟩ := hv
        obtain ⟨b, off, h, _⟩ := h6 h
        simp at h1
        rw [h] at h1; simp at h1
    have : l = [] := List.length_eq_zero_iff.1 (by omega)
    subst this
    simp [Conv.bytesToString, bstr, Sem.run_pure]
    rfl
  | some a =>
    have hload : (loadCells a n).run P w = .ok (l.map (Value.int .u8)).toArray w := by
      have := run_loadCells_list (P := P) w a (l.map (Value.int .u8)) (fun j u hu => by
        have hpos : 0 < n := by
          rcases Nat.lt_or_ge j (l.map (Value.int .u8)).length with h | h
          · simp at h; omega
          · rw [List.getElem?_eq_none h] at hu; simp at hu
        obtain ⟨ao', cap, h1, _, _, _, _, h6⟩ := hv
        obtain ⟨b, off, h, hc⟩ := h6 hpos
        simp at h1
        rw [h] at h1
        have ha : a = ⟨b, off, none⟩ := by simpa using h1.1
        subst ha
        rw [addr_add]
        exact hc j u hu)
      rwa [List.length_map, hln] at this
    rw [run_bytesToString w a n c l hload, foldl_push]
    simp [bstr]

/-- From here on only R is known of the world. -/
theorem wp_abs {P : Program} {c : Code} {Q : Exit → Act → World → Prop} {a : Act} {w0 : World} (R : World → Prop) (hR : R w0) (h : ∀ w1, R w1 → c.wp P Q a w1) : c.wp P Q a w0 := h _ hR

theorem Sl.alloc {w : World} {size n : Nat} {v : Value} {xs : List Value} (h : Sl w size v n xs) (o : Obj) : Sl (w.alloc o) size v n xs := h.below ((Below.refl _ _).alloc (Nat.le_refl _) o)
theorem sl_new (W : World) {e : TypeId} {size n : Nat} (cells : List Value) (hl : cells.length = n * size) (hn : n ≤ 9223372036854775807) : Sl (W.alloc (.cells cells.toArray e)) size (.slice (some ⟨W.heap.size, 0, none⟩) n n) n cells :=
  own_sl (own_build (B := 0) W cells (Nat.zero_le _) hl hn)
theorem cell_new (W : World) (e : TypeId) (cells : List Value) (j : Nat) (u : Value) (h : cells[j]? = some u) : (W.alloc (.cells cells.toArray e)).cell? ⟨W.heap.size, j, none⟩ = some u := by
  have := fresh_cells W cells e j u h
  rw [addr_add] at this
  simpa using this

/-- make([]T, 0, n). -/
theorem make0 {P : Program} {ops : Array Oper} {rest : List Oper} {o : Oper} {a : Act} {Q : Exit → Act → World → Prop} {w0 W : World} {B : Nat} {t e : TypeId} {size bytes : Nat}
    (el : Elem P t e size bytes) (hgd : o.guard = none) (l c : Operand) (ho : o.op = Op.makeSlice t l c) (kl kc : IntKind) (C : Int) (n : Nat) (hl : a.eval l = .int kl 0) (hc : a.eval c = .int kc C) (hC : C = (n : Int))
    (hb : bytes * n ≤ 281474976710656) (h63 : n ≤ 9223372036854775807) (hbel : Below B w0 W) (hB : B ≤ W.heap.size)
    (h : ∀ w', w'.ownsRow B e size (.slice (some ⟨W.heap.size, 0, none⟩) 0 n) 0 [] → Below B w0 w' → W.grownBy w' none → wpList P ops Q rest (a.put o.dst (.slice (some ⟨W.heap.size, 0, none⟩) 0 n)) w') :
    wpList P ops Q (o :: rest) a W := by
  obtain ⟨i, z, h2, h3, h4, h5, h6⟩ := el.info
  refine wpList_make_own W hgd l c t ho B e i z size el.und h2 h3 h4 kl kc C n hl hc hC (by rw [h5]; exact hb) (by unfold maxLen; exact h63) hB ?_
  intro w' h7 h8
  exact h w' h7 (Below.grown hbel h8 hB (fun k hk => by simp at hk)) h8

/-- append of whatever slice that has an address to a row of the call's own. -/
theorem appendS {P : Program} {ops : Array Oper} {rest : List Oper} {o : Oper} {a : Act} {Q : Exit → Act → World → Prop} {w0 W : World} {B : Nat} {t e : TypeId} {size bytes n m c : Nat} {ad : Addr} {xs news : List Value} {v : Value}
    (el : Elem P t e size bytes) (hgd : o.guard = none) (s x : Operand) (ho : o.op = .call { callee := .builtin .append, args := #[s, x], argTypes := #[t, t] })
    (hown : W.ownsRow B e size v n xs) (hbel : Below B w0 W) (hB : B ≤ W.heap.size) (hs : a.eval s = v) (hx : a.eval x = .slice (some ad) m c)
    (hsl : Sl W size (.slice (some ad) m c) m news) (h1 : ∀ u ∈ news, u.oneCell' = true) (h47 : (n + m) * bytes ≤ 140737488355328) (h63 : n + m ≤ 9223372036854775807)
    (h : ∀ v' w', w'.ownsRow B e size v' (n + m) (xs ++ news) → Below B w0 w' → W.grownBy w' v.ownBlock → wpList P ops Q rest (a.put o.dst v') w') :
    wpList P ops Q (o :: rest) a W := by
  obtain ⟨i, z, h2, h3, h4, h5, h6⟩ := el.info
  obtain ⟨ao', cap, e1, _, _, _, hl, hc⟩ := hsl
  simp at e1
  obtain ⟨rfl, rfl⟩ := e1
  refine wpList_append_own _ hgd s x t ho B e i z size bytes el.und h2 h3 h4 h5 h6 el.pos v n xs hs hown ad m c news hx hl ?_ h1 (by unfold maxLen; exact h63) h47 hB ?_
  · intro j u hu
    have hm : 0 < m := by
      rcases Nat.eq_zero_or_pos m with h | h
      · subst h
        have : news = [] := List.length_eq_zero_iff.1 (by simpa using hl)
        subst this; simp at hu
      · exact h
    obtain ⟨b, off, e2, hc'⟩ := hc hm
    have : ad = ⟨b, off, none⟩ := by simpa using e2
    subst this
    rw [addr_add]
    exact hc' j u hu
  · intro v' w' hown' hg _
    refine h v' w' hown' ?_ hg
    refine Below.grown hbel hg hB ?_
    intro k hk
    exact (hown.lt k hk).1
end Go.Gh
/-
  Words shared by the walks, part two: appends beside a struct of the call's own.
-/
namespace Go.Gh
open Go.RowKit
set_option linter.unusedVariables false

theorem below_own {w0 W w' : World} {B Bo : Nat} {e : TypeId} {size n : Nat} {v : Value} {xs : List Value} (hown : W.ownsRow Bo e size v n xs) (hbel : Below B w0 W) (hBo : B ≤ Bo) (hsz : B ≤ W.heap.size) (hg : W.grownBy w' v.ownBlock) : Below B w0 w' :=
  Below.grown hbel hg hsz (fun k hk => Nat.le_trans hBo (hown.lt k hk).1)

/-- A cell of another block stays, behind what grows an owned row. -/
theorem grown_cell {W w' : World} {Bo : Nat} {e : TypeId} {size n : Nat} {v : Value} {xs : List Value} (hown : W.ownsRow Bo e size v n xs) (hg : W.grownBy w' v.ownBlock) {b o : Nat} {u : Value} (hb : b < Bo) (hc : W.cell? ⟨b, o, none⟩ = some u) : w'.cell? ⟨b, o, none⟩ = some u := by
  refine hg.cell hc ?_
  intro h
  have := (hown.lt b (h.symm)).1
  omega
theorem grown_block {W w' : World} {Bo : Nat} {e : TypeId} {size n : Nat} {v : Value} {xs : List Value} (hown : W.ownsRow Bo e size v n xs) (hg : W.grownBy w' v.ownBlock) {b : Nat} {o : Obj} (hb : b < Bo) (hc : W.heap[b]? = some o) : w'.heap[b]? = some o := by
  rw [hg.block b (Array.getElem?_eq_some_iff.1 hc).1 ?_]
  · exact hc
  · intro h
    have := (hown.lt b (h.symm)).1
    omega

/-- append of one fresh element to an owned row, as one step of a region that draws. -/
theorem step_app1 {P : Program} {ops : Array Oper} {o : Oper} {a : Act} {K : Act → World → Prop} {Q : Exit → Act → World → Prop} {E : Prop} {w0 W : World} {B Bo : Nat} {t e : TypeId} {size bytes n : Nat} {xs : List Value} {v : Value} (cells : List Value)
    (el : Elem P t e size bytes) (hgd : o.guard = none) (s x : Operand) (ho : o.op = .call { callee := .builtin .append, args := #[s, x], argTypes := #[t, t] })
    (hown : W.ownsRow Bo e size v n xs) (hbel : Below B w0 W) (hBo : B ≤ Bo) (hB : Bo ≤ W.heap.size) (hs : a.eval s = v) (hx : a.eval x = .slice (some ⟨W.heap.size, 0, none⟩) 1 1)
    (hl : cells.length = size) (h1 : ∀ u ∈ cells, u.oneCell' = true) (h47 : (n + 1) * bytes ≤ 140737488355328) (h63 : n + 1 ≤ 9223372036854775807)
    (h : ∀ g cap w', w'.ownsRow Bo e size (.slice (some ⟨g, 0, none⟩) (n + 1) cap) (n + 1) (xs ++ cells) → Below B w0 w' → W.grownBy w' v.ownBlock → K (a.put o.dst (.slice (some ⟨g, 0, none⟩) (n + 1) cap)) w') :
    if Region.wanted o (yielded ops a.tmps) = true then Oper.wp P o a (W.alloc (.cells cells.toArray e)) K Q else E := by
  obtain ⟨i, z, h2, h3, h4, h5, h6⟩ := el.info
  refine step_append_lies _ hgd s x t ho Bo e i z size bytes el.und h2 h3 h4 h5 h6 el.pos v n xs hs (hown.alloc _) ⟨W.heap.size, 0, none⟩ 1 1 cells hx (by rw [Nat.one_mul]; exact hl) (fresh_cells W cells e) h1 (by decide) (by unfold maxLen; exact h63) h47 (by simp; omega) _ rfl ?_
  intro g cap w' hown' hg _ _
  have hg' := grown_trans (World.grownBy_alloc W (Obj.cells cells.toArray e) v.ownBlock) hg
  exact h g cap w' hown' (below_own hown hbel hBo (by omega) hg') hg'
theorem row_cell {w : World} {b : Nat} {cs : Array Value} {e : TypeId} (i : Nat) (u : Value) (h : w.heap[b]? = some (.cells cs e (0, 0))) (hi : cs[i]? = some u) : w.cell? ⟨b, i, none⟩ = some u ∧ w.frozen? ⟨b, i, none⟩ = false := by
  constructor
  · simp [World.cell?, h, hi]
  · simp [World.frozen?, h]
theorem row_setCell {w : World} {b : Nat} {cs : Array Value} {e : TypeId} (i : Nat) (u : Value) (h : w.heap[b]? = some (.cells cs e (0, 0))) : (w.setCell ⟨b, i, none⟩ u).heap[b]? = some (.cells (cs.setIfInBounds i u) e (0, 0)) := by
  simp [World.setCell, h, Array.getElem?_modify]
theorem row_setCell_other {w : World} {b b' i : Nat} {o : Obj} (u : Value) (h : w.heap[b]? = some o) (hne : b ≠ b') : (w.setCell ⟨b', i, none⟩ u).heap[b]? = some o := by
  rw [Below.heap_setCell w ⟨b', i, none⟩ u b hne]; exact h
theorem two_first (w : World) (o o' : Obj) : ((w.alloc o).alloc o').heap[w.heap.size]? = some o := by
  rw [Below.heap_alloc (w.alloc o) o' w.heap.size (by simp)]
  exact heap_alloc_new w o
theorem two_second (w : World) (o o' : Obj) : ((w.alloc o).alloc o').heap[w.heap.size + 1]? = some o' := by
  have := heap_alloc_new (w.alloc o) o'
  rwa [World.size_alloc] at this

theorem own_block_ne {w : World} {B : Nat} {e e' : TypeId} {size n b : Nat} {v : Value} {xs : List Value} {cs : Array Value} {fr : Nat × Nat} (h : w.ownsRow B e size v n xs) (hb : w.heap[b]? = some (.cells cs e' fr)) (hne : e ≠ e') : v.ownBlock ≠ some b := by
  rcases h.2 with ⟨rfl, _⟩ | ⟨g, cap, cur, rfl, _, hg, _⟩
  · simp [Value.ownBlock]
  · intro h'
    simp [Value.ownBlock] at h'
    subst h'
    rw [hb] at hg
    simp at hg
    exact hne hg.2.1.symm
theorem grown_block2 {W w' : World} {row : Option Nat} (hg : W.grownBy w' row) {b : Nat} {o : Obj} (hne : row ≠ some b) (hc : W.heap[b]? = some o) : w'.heap[b]? = some o := by
  rw [hg.block b (Array.getElem?_eq_some_iff.1 hc).1 (fun h => hne h.symm)]
  exact hc

theorem grown_setCell {w w' : World} {b : Nat} (h : w.grownBy w' (some b)) (i : Nat) (u : Value) : w.grownBy (w'.setCell ⟨b, i, none⟩ u) (some b) :=
  ⟨h.os, h.tape, h.output, by simpa using h.size, fun k hk hne => by
    rw [Below.heap_setCell w' ⟨b, i, none⟩ u k (fun e => hne (by rw [e]))]
    exact h.block k hk hne⟩
theorem grown_drewN {w w' : World} {r : Option Nat} (h : w.grownBy w' r) (n : Nat) : w.grownBy (w'.drewN n) r := ⟨h.os, h.tape, h.output, h.size, h.block⟩
theorem below_of_grown {w w' : World} {r : Option Nat} {B : Nat} (h : w.grownBy w' r) (hB : B ≤ w.heap.size) (hr : ∀ k, r = some k → B ≤ k) : Below B w w' := Below.grown (Below.refl _ _) h hB hr

/-- 'append1' where the new cell's block is spelled as a number. -/
theorem append1p {P : Program} {ops : Array Oper} {rest : List Oper} {o : Oper} {a : Act} {Q : Exit → Act → World → Prop} {w0 W : World} {B p : Nat} {t e : TypeId} {size bytes n : Nat} {xs : List Value} {v : Value} (cells : List Value)
    (el : Elem P t e size bytes) (hgd : o.guard = none) (s x : Operand) (ho : o.op = .call { callee := .builtin .append, args := #[s, x], argTypes := #[t, t] })
    (hown : W.ownsRow B e size v n xs) (hbel : Below B w0 W) (hB : B ≤ W.heap.size) (hs : a.eval s = v) (hx : a.eval x = .slice (some ⟨p, 0, none⟩) 1 1) (hp : p = W.heap.size)
    (hl : cells.length = size) (h1 : ∀ u ∈ cells, u.oneCell' = true) (h47 : (n + 1) * bytes ≤ 140737488355328) (h63 : n + 1 ≤ 9223372036854775807)
    (h : ∀ v' w', w'.ownsRow B e size v' (n + 1) (xs ++ cells) → Below B w0 w' → W.grownBy w' v.ownBlock → wpList P ops Q rest (a.put o.dst v') w') :
    wpList P ops Q (o :: rest) a (W.alloc (.cells cells.toArray e)) := by
  subst hp
  exact append1 cells el hgd s x ho hown hbel hB hs hx hl h1 h47 h63 h
end Go.Gh
/-
  Lists of cells: of a list of things that have so many cells each.
-/
namespace Go.Gh
theorem flat_len {α β : Type} (f : α → List β) (size : Nat) (hf : ∀ a, (f a).length = size) (l : List α) : (l.flatMap f).length = l.length * size := by
  induction l with
  | nil => simp
  | cons a l ih => rw [List.flatMap_cons, List.length_append, hf, ih, List.length_cons, Nat.succ_mul, Nat.add_comm]
theorem flat_get {α β : Type} (f : α → List β) (size : Nat) (hf : ∀ a, (f a).length = size) (l : List α) (i j : Nat) (hi : i < l.length) (hj : j < size) :
    (l.flatMap f)[i * size + j]? = (f l[i])[j]? := by
  induction l generalizing i with
  | nil => simp at hi
  | cons a l ih =>
    rw [List.flatMap_cons]
    cases i with
    | zero => rw [Nat.zero_mul, Nat.zero_add, List.getElem?_append_left (by rw [hf]; exact hj)]; rfl
    | succ i =>
      rw [Nat.succ_mul, List.getElem?_append_right (by rw [hf]; omega), hf, show i * size + size + j - size = i * size + j from by omega]
      exact ih i (by simpa using hi)
theorem flat_take {α β : Type} (f : α → List β) (size : Nat) (hf : ∀ a, (f a).length = size) (l : List α) (n : Nat) (h : n ≤ l.length) : (l.take n).flatMap f = (l.flatMap f).take (n * size) := by
  induction l generalizing n with
  | nil => simp
  | cons a l ih =>
    cases n with
    | zero => simp
    | succ n =>
      rw [List.take_succ_cons, List.flatMap_cons, List.flatMap_cons, ih n (by simpa using h), Nat.succ_mul, Nat.add_comm, List.take_append, hf, List.take_of_length_le (l := f a) (by rw [hf]; omega), show size + n * size - size = n * size from by omega]
end Go.Gh
/-
  Slices of structs whose fields are all int64: how they read, and arguments opened.
-/
namespace Go.Gh
open Go.RowKit Go.ChangeShapes Go.WideShapes Go.ChangeAt Go.Deep
set_option linter.unusedVariables false

/-- The cells of rows of numbers. -/
def rowCells (l : List (List Int)) : List Value := l.flatMap fun r => r.map (Value.int .i64)
def Rows64 (k : Nat) (l : List (List Int)) : Prop := ∀ r ∈ l, r.length = k ∧ ∀ z ∈ r, (Lit.int .i64 z).wf = true

theorem rowCells_len (k : Nat) (l : List (List Int)) (h : ∀ r ∈ l, r.length = k) : (rowCells l).length = l.length * k := by
  unfold rowCells
  induction l with
  | nil => simp
  | cons a l ih => rw [List.flatMap_cons, List.length_append, List.length_map, h a (by simp), ih (fun r hr => h r (by simp [hr])), List.length_cons, Nat.succ_mul, Nat.add_comm]
theorem rowCells_get (k : Nat) (l : List (List Int)) (h : ∀ r ∈ l, r.length = k) (i j : Nat) (hi : i < l.length) (hj : j < k) : (rowCells l)[i * k + j]? = (l[i].map (Value.int .i64))[j]? := by
  unfold rowCells
  induction l generalizing i with
  | nil => simp at hi
  | cons a l ih =>
    have ha := h a (by simp)
    rw [List.flatMap_cons]
    cases i with
    | zero => rw [Nat.zero_mul, Nat.zero_add, List.getElem?_append_left (by rw [List.length_map, ha]; exact hj)]; rfl
    | succ i =>
      rw [Nat.succ_mul, List.getElem?_append_right (by rw [List.length_map, ha]; omega), List.length_map, ha, show i * k + k + j - k = i * k + j from by omega]
      exact ih (fun r hr => h r (by simp [hr])) i (by simpa using hi)
section
variable {H : Type} {enc : TypeId × Value → H} {P : Program} {W : World} {base : Nat} {spare : Nat → Bool} {held : Bool}
theorem sl_structs {t e : TypeId} {fs : Array Field} {fuel : Nat} {v : Value} {x : DataW H × List MemPlace} (ht : P.underlying t = some (.slice e)) (he : P.underlying e = some (.struct fs))
    (hi : ∀ (j : Nat) (f : Field), fs[j]? = some f → P.underlying f.type = some (.int .i64)) (hone : oneCellFields P fs = true) (hpos : 0 < fs.size) (hC : P.cellsOf e = fs.size)
    (h : DataW.trod enc P W base spare held fuel t [v] = some x) (hs : ∀ n ∈ x.1.weights P t, n ≤ reachBytes) :
    ∃ (n : Nat) (l : List (List Int)), Sl W fs.size v n (rowCells l) ∧ l.length = n ∧ Rows64 fs.size l ∧ n * P.bytesOf e ≤ reachBytes := by
  rcases open_slice ht h with ⟨hcs, _⟩ | ⟨a, len, cap, m, n, D, Pl, hcs, hb, hl, hm, hmm, hx, hi'⟩
  · obtain rfl : v = .slice none 0 0 := by simpa using hcs
    exact ⟨0, [], ⟨none, 0, rfl, Nat.le_refl _, Nat.zero_le _, fun _ => rfl, by simp [rowCells], fun h => absurd h (Nat.lt_irrefl _)⟩, rfl, by intro r hr; simp at hr, by simp⟩
  · obtain rfl : v = .slice (some a) len cap := by simpa using hcs
    have hlm : len ≤ m := by rw [hmm]; split <;> omega
    have each : ∀ i, i < len → ∃ r : List Int, (r.length = fs.size ∧ ∀ z ∈ r, (Lit.int .i64 z).wf = true) ∧ ∀ j u, (r.map (Value.int .i64))[j]? = some u → W.cell? (a.add (i * fs.size + j)) = some u := by
      intro i hlt
      obtain ⟨cs', hc, ht'⟩ := hi' i (by omega)
      rw [hC] at hc
      obtain ⟨xs, n', _, _, hlen, hxl, hf⟩ := DataW.trod_struct he ht'
      obtain ⟨_, hcl, hat⟩ := World.cells?_some hc
      have hz : ∀ j, j < fs.size → ∃ z : Int, cs'[j]? = some (.int .i64 z) ∧ (Lit.int .i64 z).wf = true := by
        intro j hj
        have hfj : fs[j]? = some fs[j] := Array.getElem?_eq_getElem hj
        obtain ⟨ho, hk⟩ := hone_of hone j _ hfj
        have h1 := hf j _ hfj
        have hjc : j < cs'.length := by rw [hcl]; exact hj
        rw [ho, hk, take1_drop cs' j undef hjc, List.getElem?_eq_getElem (show j < xs.length by rw [hxl]; exact hj)] at h1
        obtain ⟨z, hzz, _, hw⟩ := DataW.trod_int (hi j _ hfj) h1
        refine ⟨z, ?_, hw⟩
        rw [List.getElem?_eq_getElem hjc]
        have : cs'.getD j undef = .int .i64 z := by simpa using hzz
        rw [List.getD_eq_getElem?_getD, List.getElem?_eq_getElem hjc] at this
        simpa using this
      obtain ⟨Z, hZ⟩ := choose_lt hz
      refine ⟨(List.range fs.size).map Z, ⟨by simp, ?_⟩, ?_⟩
      · intro z hz'
        simp at hz'
        obtain ⟨j, hj, rfl⟩ := hz'
        exact (hZ j hj).2
      · intro j u hu
        have hj : j < fs.size := by
          rcases Nat.lt_or_ge j fs.size with h' | h'
          · exact h'
          · rw [List.getElem?_eq_none (by simp; exact h')] at hu; simp at hu
        simp [hj] at hu
        subst hu
        have h2 := hat j hj
        rw [add_add, (hZ j hj).1] at h2
        exact h2
    obtain ⟨R, hR⟩ := choose_lt each
    have hlen : ((List.range len).map R).length = len := by simp
    have hsz : ∀ r ∈ (List.range len).map R, r.length = fs.size := by
      intro r hr
      simp at hr
      obtain ⟨i, hi, rfl⟩ := hr
      exact (hR i hi).1.1
    refine ⟨len, (List.range len).map R, ⟨some a, cap, rfl, hl, hm, fun h => by simp at h, ?_, fun hn => ?_⟩, hlen, ?_, ?_⟩
    · rw [rowCells_len fs.size _ hsz, hlen]
    · have h0 := (hR 0 hn).2 0 (.int .i64 ((R 0).getD 0 0)) (by
        have : 0 < (R 0).length := by rw [(hR 0 hn).1.1]; exact hpos
        simp [this])
      obtain ⟨b, off, spot⟩ := a
      have hs := World.cell?_spot h0
      simp [Addr.add] at hs
      subst hs
      refine ⟨b, off, rfl, fun i u hu => ?_⟩
      have hidx : i < len * fs.size := by
        rcases Nat.lt_or_ge i (len * fs.size) with h' | h'
        · exact h'
        · rw [List.getElem?_eq_none (by rw [rowCells_len fs.size _ hsz, hlen]; exact h')] at hu; simp at hu
      have hq : i / fs.size < len := Nat.div_lt_of_lt_mul (by rw [Nat.mul_comm]; exact hidx)
      have hr : i % fs.size < fs.size := Nat.mod_lt _ hpos
      have hdm : i / fs.size * fs.size + i % fs.size = i := by rw [Nat.mul_comm]; exact Nat.div_add_mod i fs.size
      rw [← hdm, rowCells_get fs.size _ hsz (i / fs.size) (i % fs.size) (by rw [hlen]; exact hq) hr] at hu
      have := (hR (i / fs.size) hq).2 (i % fs.size) u (by simpa using hu)
      rw [addr_add, hdm] at this
      exact this
    · intro r hr
      simp at hr
      obtain ⟨i, hi, rfl⟩ := hr
      exact (hR i hi).1
    · have := hs ((((List.range len).map D).length + ((List.range (m - len)).map fun j => D (len + j)).length) * P.bytesOf e) (by rw [hx]; simp [DataW.weights, ht])
      refine Nat.le_trans (Nat.mul_le_mul_right _ ?_) this
      simp
end

/-- A slice of structs of k fields, all int64, that came in. -/
def IsRows (k : Nat) (w : World) (v : Value) : Prop := ∃ (n : Nat) (l : List (List Int)), Sl w k v n (rowCells l) ∧ l.length = n ∧ Rows64 k l ∧ n ≤ 140737488355328
def all64 (P : Program) (fs : Array Field) : Bool := (List.range fs.size).all fun j => match fs[j]? with
  | some f => match P.underlying f.type with
    | some (.int .i64) => true
    | _ => false
  | none => false
theorem all64_of {P : Program} {fs : Array Field} (h : all64 P fs = true) : ∀ (j : Nat) (f : Field), fs[j]? = some f → P.underlying f.type = some (.int .i64) := by
  intro j f hj
  have hlt : j < fs.size := (Array.getElem?_eq_some_iff.1 hj).1
  have := List.all_eq_true.1 h j (List.mem_range.2 hlt)
  rw [hj] at this
  simp only at this
  split at this
  · assumption
  · simp at this
section
variable {H : Type} {enc : TypeId × Value → H} {P : Program} {W : World} {base b0 : Nat} {r : Reach} {spare : Nat → Bool} {held : Bool} {t e : TypeId} {v : Value} {d : DataW H} {ps : List MemPlace}
theorem isRows_of {fs : Array Field} (ht : P.underlying t = some (.slice e)) (he : P.underlying e = some (.struct fs)) (h64 : all64 P fs = true) (hone : oneCellFields P fs = true) (hpos : 0 < fs.size) (hC : P.cellsOf e = fs.size) (hb : 0 < P.bytesOf e)
    (hv : Value.okWide P W r b0 t v) (hd : DataW.Trod enc P W base spare held t v d ps) (hs : ∀ n ∈ d.weights P t, n ≤ reachBytes) : IsRows fs.size W v := by
  obtain ⟨a, l, c, rfl⟩ := okWide_slice ht hv
  obtain ⟨fuel, hf⟩ := hd
  obtain ⟨n, l, h1, h2, h3, h4⟩ := sl_structs ht he (all64_of h64) hone hpos hC (by simpa [Value.cells] using hf) hs
  exact ⟨n, l, h1, h2, h3, reach_le h4 hb⟩
end
/-- An element: where it lies, and its fields' cells. -/
theorem Sl.row {w : World} {ao : Option Addr} {n c k : Nat} {l : List (List Int)} (h : Sl w k (.slice ao n c) n (rowCells l)) (hl : l.length = n) (hr : Rows64 k l) {i : Nat} (hi : i < n) :
    ∃ b off, ao = some ⟨b, off, none⟩ ∧ (l.getD i []).length = k ∧ (∀ z ∈ l.getD i [], (Lit.int .i64 z).wf = true) ∧ ∀ j, j < k → w.cell? ⟨b, off + i * k + j, none⟩ = some (.int .i64 ((l.getD i []).getD j 0)) := by
  obtain ⟨ao', cap, h1, h2, h3, h4, h5, h6⟩ := h
  simp at h1
  obtain ⟨rfl, rfl⟩ := h1
  obtain ⟨b, off, rfl, hc⟩ := h6 (by omega)
  have hil : i < l.length := by omega
  have hg : l.getD i [] = l[i] := by rw [List.getD_eq_getElem?_getD, List.getElem?_eq_getElem hil]; rfl
  rw [hg]
  have hri := hr l[i] (List.getElem_mem _)
  refine ⟨b, off, rfl, hri.1, hri.2, fun j hj => ?_⟩
  have := rowCells_get k l (fun r hr' => (hr r hr').1) i j hil hj
  rw [Nat.add_assoc]
  refine hc _ _ ?_
  rw [this]
  have hj' : j < l[i].length := by rw [hri.1]; exact hj
  simp [hj']
end Go.Gh
/-
  Words shared by the walks, part three: rows of structs that are written over.
-/
namespace Go.Gh
open Go.RowKit
set_option linter.unusedVariables false

def setCells (w : World) (g k : Nat) : List Value → World
  | [] => w
  | u :: us => setCells (w.setCell ⟨g, k, none⟩ u) g (k + 1) us
def setFrom (xs : List Value) (k : Nat) : List Value → List Value
  | [] => xs
  | u :: us => setFrom (xs.set k u) (k + 1) us
theorem own_stores {B g n cap size : Nat} {e : TypeId} : ∀ (us : List Value) (w : World) (k : Nat) (xs : List Value), w.ownsRow B e size (.slice (some ⟨g, 0, none⟩) n cap) n xs →
    (setCells w g k us).ownsRow B e size (.slice (some ⟨g, 0, none⟩) n cap) n (setFrom xs k us)
  | [], w, k, xs, h => h
  | u :: us, w, k, xs, h => own_stores us _ (k + 1) _ (h.stored k u).1
theorem below_stores {B g : Nat} {w0 : World} (hg : B ≤ g) : ∀ (us : List Value) (w : World) (k : Nat), Below B w0 w → Below B w0 (setCells w g k us)
  | [], w, k, h => h
  | u :: us, w, k, h => below_stores hg us _ (k + 1) (h.setCell (p := ⟨g, k, none⟩) hg u)
theorem row_stores {b : Nat} {e : TypeId} : ∀ (us : List Value) (w : World) (k : Nat) (cs : List Value), w.heap[b]? = some (.cells cs.toArray e (0, 0)) → (setCells w b k us).heap[b]? = some (.cells (setFrom cs k us).toArray e (0, 0))
  | [], w, k, cs, h => h
  | u :: us, w, k, cs, h => by
    have := row_setCell k u h
    rw [List.setIfInBounds_toArray] at this
    exact row_stores us _ (k + 1) (cs.set k u) this
theorem own_stores_other {B n b size : Nat} {e : TypeId} {v : Value} {xs : List Value} (hne : v.ownBlock ≠ some b) : ∀ (us : List Value) (w : World) (k : Nat), w.ownsRow B e size v n xs → (setCells w b k us).ownsRow B e size v n xs
  | [], w, k, h => h
  | u :: us, w, k, h => own_stores_other hne us _ (k + 1) (ownsRow_setCell_other h (a := ⟨b, k, none⟩) hne u)
theorem block_stores_other {b b' : Nat} {o : Obj} (hne : b' ≠ b) : ∀ (us : List Value) (w : World) (k : Nat), w.heap[b']? = some o → (setCells w b k us).heap[b']? = some o
  | [], w, k, h => h
  | u :: us, w, k, h => block_stores_other hne us _ (k + 1) (row_setCell_other u h hne)
theorem setFrom_mid : ∀ (us mid pre post : List Value), mid.length = us.length → setFrom (pre ++ mid ++ post) pre.length us = pre ++ us ++ post
  | [], mid, pre, post, h => by
    have : mid = [] := List.length_eq_zero_iff.1 h
    subst this; rfl
  | u :: us, mid, pre, post, h => by
    match mid, h with
    | m :: mid, h =>
      have e : (pre ++ m :: mid ++ post).set pre.length u = (pre ++ [u]) ++ mid ++ post := by
        rw [List.append_assoc, List.set_append_right _ _ (Nat.le_refl _)]
        simp
      have := setFrom_mid us mid (pre ++ [u]) post (by simpa using h)
      rw [setFrom, e]
      rw [List.length_append, List.length_singleton] at this
      rw [this]
      simp
theorem setFrom_all (us cs : List Value) (h : cs.length = us.length) : setFrom cs 0 us = us := by
  have := setFrom_mid us cs [] [] h
  simpa using this
def RowsK (k : Nat) (l : List (List Int)) : Prop := ∀ r ∈ l, r.length = k
theorem Rows64.k {k : Nat} {l : List (List Int)} (h : Rows64 k l) : RowsK k l := fun r hr => (h r hr).1
theorem rowCells_append (a b : List (List Int)) : rowCells (a ++ b) = rowCells a ++ rowCells b := by
  unfold rowCells; rw [List.flatMap_append]
theorem rowCells_one (r : List Int) : rowCells [r] = r.map (Value.int .i64) := by
  unfold rowCells; simp
/-- A row is written over. -/
theorem setFrom_row {k : Nat} (l : List (List Int)) (h : RowsK k l) (i : Nat) (hi : i < l.length) (r : List Int) (hr : r.length = k) : setFrom (rowCells l) (i * k) (r.map (Value.int .i64)) = rowCells (l.set i r) := by
  have e1 : l = l.take i ++ [l[i]] ++ l.drop (i + 1) := by
    rw [List.append_assoc, List.singleton_append, ← List.drop_eq_getElem_cons hi, List.take_append_drop]
  have e2 : l.set i r = l.take i ++ [r] ++ l.drop (i + 1) := by
    rw [List.set_eq_take_append_cons_drop, if_pos hi, List.append_assoc, List.singleton_append]
  rw [e2]
  conv => lhs; rw [e1]
  rw [rowCells_append, rowCells_append, rowCells_append, rowCells_append, rowCells_one, rowCells_one]
  have hl : (rowCells (l.take i)).length = i * k := by
    rw [rowCells_len k _ (fun r hr => h r (List.mem_of_mem_take hr)), List.length_take, Nat.min_eq_left (by omega)]
  rw [← hl]
  exact setFrom_mid _ _ _ _ (by simp [hr, h l[i] (List.getElem_mem _)])
/-- An element: where it lies, and its fields' cells (lengths alone asked). -/
theorem Sl.rowk {w : World} {ao : Option Addr} {n c k : Nat} {l : List (List Int)} (h : Sl w k (.slice ao n c) n (rowCells l)) (hl : l.length = n) (hr : RowsK k l) {i : Nat} (hi : i < n) :
    ∃ b off, ao = some ⟨b, off, none⟩ ∧ (l.getD i []).length = k ∧ ∀ j, j < k → w.cell? ⟨b, off + i * k + j, none⟩ = some (.int .i64 ((l.getD i []).getD j 0)) := by
  obtain ⟨ao', cap, h1, h2, h3, h4, h5, h6⟩ := h
  simp at h1
  obtain ⟨rfl, rfl⟩ := h1
  obtain ⟨b, off, rfl, hc⟩ := h6 (by omega)
  have hil : i < l.length := by omega
  have hg : l.getD i [] = l[i] := by rw [List.getD_eq_getElem?_getD, List.getElem?_eq_getElem hil]; rfl
  rw [hg]
  have hri := hr l[i] (List.getElem_mem _)
  refine ⟨b, off, rfl, hri, fun j hj => ?_⟩
  have := rowCells_get k l hr i j hil hj
  rw [Nat.add_assoc]
  refine hc _ _ ?_
  rw [this]
  have hj' : j < l[i].length := by rw [hri]; exact hj
  simp [hj']
theorem own_shape {w : World} {B : Nat} {e : TypeId} {size n : Nat} {v : Value} {xs : List Value} (h : w.ownsRow B e size v n xs) : ∃ ao c, v = .slice ao n c ∧ n ≤ c ∧ c ≤ 9223372036854775807 ∧ xs.length = n * size := (own_sl h).shape
/-- The rows that an owned row holds, cell by cell. -/
theorem own_row {w : World} {B : Nat} {e : TypeId} {g n cap k : Nat} {l : List (List Int)} (h : w.ownsRow B e k (.slice (some ⟨g, 0, none⟩) n cap) n (rowCells l)) (hr : RowsK k l) (hl : l.length = n) {i j : Nat} (hi : i < n) (hj : j < k) :
    w.cell? ⟨g, i * k + j, none⟩ = some (.int .i64 ((l.getD i []).getD j 0)) ∧ w.frozen? ⟨g, i * k + j, none⟩ = false := by
  refine ⟨?_, h.frozenAt _⟩
  have hlt : i * k + j < n * k := by
    have : (i + 1) * k ≤ n * k := Nat.mul_le_mul_right _ hi
    rw [Nat.succ_mul] at this
    omega
  rw [h.cellAt _ hlt]
  have := rowCells_get k l hr i j (by omega) hj
  rw [this]
  have hil : i < l.length := by omega
  have hri := hr l[i] (List.getElem_mem _)
  have hj' : j < l[i].length := by rw [hri]; exact hj
  have hg : l.getD i [] = l[i] := by rw [List.getD_eq_getElem?_getD, List.getElem?_eq_getElem hil]; rfl
  rw [hg]
  simp [hj']
end Go.Gh
