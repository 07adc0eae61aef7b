/-
  Words shared by the walks of this seat: a slice's value reads as a list of cells, and what that gives.
-/
import Derived.Test.YtlfhcjhbnakamaaLg1
import Derived.WalkKit
import Derived.ProofKit
import Derived.Below
import Derived.Lib.Hide
import Derived.Deep.Slices
import Derived.OwnWalk
import Derived.Handy
import Derived.WalkSmall
import Derived.OpenShut
import Derived.ShutString
import Derived.ChangeOld
import Derived.SizedLaws
import Derived.Deep.AppendLies
import Derived.Deep.RegionLaw
import Derived.Deep.Cut
import Derived.Deep.DeepCutAuto
import Derived.Deep.QuietTactic
import Derived.BigQuiet
import Derived.Outline
import Derived.WalkSpells
import Derived.Test.YtlfhcjhbnakamaaProg
import Derived.BigRegion
import Derived.IntWalk
namespace Go.Gh
open Go.RowKit Go.ChangeShapes Go.WideShapes Go.ChangeAt
set_option linter.unusedVariables false

theorem ret_int {k : IntKind} {a b : Int} (h : a = b) : Ending.returned (.int k a) = .returned (.int k b) := by rw [h]
theorem ret_str {a b : ByteArray} (h : a = b) : Ending.returned (.string a) = .returned (.string b) := by rw [h]
theorem ret_bool {a b : Bool} (h : a = b) : Ending.returned (.bool a) = .returned (.bool b) := by rw [h]

theorem wf_u8 {z : Int} (h : (Lit.int .u8 z).wf = true) : 0 ≤ z ∧ z < 256 := by
  simp [Lit.wf, IntKind.min, IntKind.max, IntKind.signed, IntKind.bits] at h
  omega
theorem wf_u64 {z : Int} (h : (Lit.int .u64 z).wf = true) : 0 ≤ z ∧ z < 18446744073709551616 := by
  simp [Lit.wf, IntKind.min, IntKind.max, IntKind.signed, IntKind.bits] at h
  omega
theorem wf_i64 {z : Int} (h : (Lit.int .i64 z).wf = true) : -9223372036854775808 ≤ z ∧ z < 9223372036854775808 := by
  simp [Lit.wf, IntKind.min, IntKind.max, IntKind.signed, IntKind.bits] at h
  omega

/-- The slice value v has n elements of 'size' cells each, and they are the cells xs. -/
def Sl (w : World) (size : Nat) (v : Value) (n : Nat) (xs : List Value) : Prop :=
  ∃ ao cap, v = .slice ao n cap ∧ n ≤ cap ∧ cap ≤ maxLen ∧ (ao = none → cap = 0) ∧ xs.length = n * size ∧
    (0 < n → ∃ b off, ao = some ⟨b, off, none⟩ ∧ ∀ i u, xs[i]? = some u → w.cell? ⟨b, off + i, none⟩ = some u)

theorem addr_add (b off i : Nat) : (⟨b, off, none⟩ : Addr).add i = ⟨b, off + i, none⟩ := by
  unfold Addr.add; split <;> simp_all

theorem cell_lt {w : World} {b o : Nat} {s : Option Nat} {u : Value} (h : w.cell? ⟨b, o, s⟩ = some u) : b < w.heap.size := by
  rcases Nat.lt_or_ge b w.heap.size with h' | h'
  · exact h'
  · simp [World.cell?, Array.getElem?_eq_none h'] at h

/-- What a reading gives stays as it is in a world that keeps what was there. -/
theorem Sl.below {w w' : World} {size n : Nat} {v : Value} {xs : List Value} (h : Sl w size v n xs) (hb : Below w.heap.size w w') : Sl w' size v n xs := by
  obtain ⟨ao, cap, h1, h2, h3, h4, h5, h6⟩ := h
  refine ⟨ao, cap, h1, h2, h3, h4, h5, fun hn => ?_⟩
  obtain ⟨b, off, ha, hc⟩ := h6 hn
  refine ⟨b, off, ha, fun i u hu => ?_⟩
  have := hc i u hu
  exact (hb.cell (p := ⟨b, off + i, none⟩) (cell_lt this)).trans this

theorem own_sl {w : World} {base : Nat} {e : TypeId} {size : Nat} {v : Value} {n : Nat} {xs : List Value} (h : w.ownsRow base e size v n xs) : Sl w size v n xs := by
  obtain ⟨hl, h | ⟨g, cap, cur, rfl, hb, hg, hn, hm, hs, ht⟩⟩ := h
  · obtain ⟨rfl, rfl⟩ := h
    exact ⟨none, 0, rfl, Nat.le_refl _, Nat.zero_le _, fun _ => rfl, hl, fun h => absurd h (Nat.lt_irrefl _)⟩
  · refine ⟨_, cap, rfl, hn, hm, fun h => by simp at h, hl, fun _ => ⟨g, 0, rfl, fun i u hu => ?_⟩⟩
    have h : w.ownsRow base e size (.slice (some ⟨g, 0, none⟩) n cap) n xs := ⟨hl, .inr ⟨g, cap, cur, rfl, hb, hg, hn, hm, hs, ht⟩⟩
    have := h.cells (g := g) rfl i u hu
    rwa [addr_add] at this

section
variable {H : Type} {enc : TypeId × Value → H} {P : Program} {W : World} {base : Nat} {spare : Nat → Bool} {held : Bool}

/-- A slice of integers that came in, as 'Sl'. -/
theorem sl_ints {t e : TypeId} {k : IntKind} {fuel : Nat} {v : Value} {x : DataW H × List MemPlace} (ht : P.underlying t = some (.slice e)) (he : P.underlying e = some (.int k)) (hc : P.cellsOf e = 1)
    (h : DataW.trod enc P W base spare held fuel t [v] = some x) (hs : ∀ n ∈ x.1.weights P t, n ≤ reachBytes) :
    ∃ (n : Nat) (zs : List Int), Sl W 1 v n (zs.map (Value.int k)) ∧ (∀ z ∈ zs, (Lit.int k z).wf = true) ∧ n * P.bytesOf e ≤ reachBytes := by
  rcases open_ints ht he hc h with ⟨hcs, _⟩ | ⟨a, len, cap, zs, hcs, _, hl, hm, hz, hx, hcell, hwz⟩
  · obtain rfl : v = .slice none 0 0 := by simpa using hcs
    exact ⟨0, [], ⟨none, 0, rfl, Nat.le_refl _, Nat.zero_le _, fun _ => rfl, by simp, fun h => absurd h (Nat.lt_irrefl _)⟩, by simp, by simp⟩
  · obtain rfl : v = .slice (some a) len cap := by simpa using hcs
    have hlz : len ≤ zs.length := by rw [hz]; split <;> omega
    refine ⟨len, zs.take len, ⟨some a, cap, rfl, hl, hm, fun h => by simp at h, by simp; omega, fun hn => ?_⟩, fun z hz' => hwz z (List.mem_of_mem_take hz'), ?_⟩
    · have h0 := hcell 0 (by omega)
      obtain ⟨b, off, spot⟩ := a
      have hs := World.cell?_spot h0
      simp [Addr.add] at hs
      subst hs
      refine ⟨b, off, rfl, fun i u hu => ?_⟩
      have hi : i < len := by
        rcases Nat.lt_or_ge i len with h' | h'
        · exact h'
        · rw [List.getElem?_eq_none (by simp; omega)] at hu; simp at hu
      have := hcell i (by omega)
      rw [addr_add] at this
      rw [this]
      have hi' : i < zs.length := by omega
      simp [List.getElem?_map, hi, List.getElem?_eq_getElem hi'] at hu
      rw [← hu, List.getD_eq_getElem?_getD, List.getElem?_eq_getElem hi']
      rfl
    · have := hs ((lits (H := H) k (zs.take len)).length + (lits (H := H) k (zs.drop len)).length |>.mul (P.bytesOf e)) (by rw [hx]; simp [DataW.weights, ht])
      refine Nat.le_trans (Nat.mul_le_mul_right _ ?_) this
      simp [lits]
      omega
end

/-- An element of a slice of integers: its cell. -/
theorem Sl.int {w : World} {ao : Option Addr} {n c : Nat} {k : IntKind} {zs : List Int} (h : Sl w 1 (.slice ao n c) n (zs.map (Value.int k))) {i : Nat} (hi : i < n) :
    ∃ b off, ao = some ⟨b, off, none⟩ ∧ w.cell? ⟨b, off + i, none⟩ = some (.int k (zs.getD i 0)) := by
  obtain ⟨ao', cap, h1, h2, h3, h4, h5, h6⟩ := h
  simp at h1 h5
  obtain ⟨rfl, rfl⟩ := h1
  obtain ⟨b, off, rfl, hc⟩ := h6 (by omega)
  refine ⟨b, off, rfl, hc i _ ?_⟩
  have : i < zs.length := by omega
  simp [this]

/-- An element of a slice of bytes: its cell, its bounds; its name is hidden. -/
theorem Sl.byte {w : World} {ao : Option Addr} {n c : Nat} {zs : List Int} (h : Sl w 1 (.slice ao n c) n (zs.map (Value.int .u8))) (hl : ∀ z ∈ zs, (Lit.int .u8 z).wf = true) {i : Nat} (hi : i < n) :
    ∃ b off z, ao = some ⟨b, off, none⟩ ∧ w.cell? ⟨b, off + i, none⟩ = some (.int .u8 z) ∧ 0 ≤ z ∧ z < 256 ∧ Hid (zs.getD i 0 = z) := by
  obtain ⟨b, off, ha, hc⟩ := h.int hi
  obtain ⟨_, _, _, _, _, _, h5, _⟩ := h
  have hi' : i < zs.length := by simp at h5; omega
  have := wf_u8 (hl (zs.getD i 0) (by rw [List.getD_eq_getElem?_getD, List.getElem?_eq_getElem hi']; exact List.getElem_mem _))
  exact ⟨b, off, _, ha, hc, this.1, this.2, Lib.hid rfl⟩

theorem Sl.shape {w : World} {v : Value} {n size : Nat} {xs : List Value} (h : Sl w size v n xs) : ∃ ao c, v = .slice ao n c ∧ n ≤ c ∧ c ≤ 9223372036854775807 ∧ xs.length = n * size := by
  obtain ⟨ao, cap, rfl, h2, h3, h4, h5, h6⟩ := h
  exact ⟨ao, cap, rfl, h2, h3, h5⟩


/-! ### What an argument that came in is known as -/
def IsInt (k : IntKind) (w : World) (v : Value) : Prop := ∃ n, v = .int k n ∧ (Lit.int k n).wf = true
def IsInts (k : IntKind) (w : World) (v : Value) : Prop := ∃ (n : Nat) (zs : List Int), Sl w 1 v n (zs.map (Value.int k)) ∧ (∀ z ∈ zs, (Lit.int k z).wf = true) ∧ n ≤ 140737488355328
def IsString (w : World) (v : Value) : Prop := ∃ s : ByteArray, v = .string s ∧ s.size ≤ 140737488355328

theorem reach_le {n b : Nat} (h : n * b ≤ reachBytes) (hb : 0 < b) : n ≤ 140737488355328 := by
  have h1 : reachBytes ≤ 140737488355328 := by decide
  have h2 : n * 1 ≤ n * b := Nat.mul_le_mul_left n hb
  omega

section
variable {H : Type} {enc : TypeId × Value → H} {P : Program} {W : World} {base b0 : Nat} {r : Reach} {spare : Nat → Bool} {held : Bool} {t e : TypeId} {k : IntKind} {v : Value} {d : DataW H} {ps : List MemPlace}
theorem rd_int {fuel : Nat} {x : DataW H × List MemPlace} (ht : P.underlying t = some (.int k)) (h : DataW.trod enc P W base spare held fuel t [v] = some x) : IsInt k W v := by
  obtain ⟨n, h1, _, hw⟩ := DataW.trod_int ht h
  exact ⟨n, by simpa using h1, hw⟩
theorem rd_ints {fuel : Nat} {x : DataW H × List MemPlace} (ht : P.underlying t = some (.slice e)) (he : P.underlying e = some (.int k)) (hc : P.cellsOf e = 1) (hb : 0 < P.bytesOf e)
    (h : DataW.trod enc P W base spare held fuel t [v] = some x) (hs : ∀ n ∈ x.1.weights P t, n ≤ reachBytes) : IsInts k W v := by
  obtain ⟨n, zs, h1, h2, h3⟩ := sl_ints ht he hc h hs
  exact ⟨n, zs, h1, h2, reach_le h3 hb⟩
theorem isInt_of (ht : P.underlying t = some (.int k)) (hv : Value.okWide P W r b0 t v) (hd : DataW.Trod enc P W base spare held t v d ps) (hs : ∀ n ∈ d.weights P t, n ≤ reachBytes) : IsInt k W v := by
  obtain ⟨n, h1, _, _, h2⟩ := open_int ht hv hd
  exact ⟨n, h1, h2⟩
theorem isInts_of (ht : P.underlying t = some (.slice e)) (he : P.underlying e = some (.int k)) (hc : P.cellsOf e = 1) (hb : 0 < P.bytesOf e) (hv : Value.okWide P W r b0 t v) (hd : DataW.Trod enc P W base spare held t v d ps) (hs : ∀ n ∈ d.weights P t, n ≤ reachBytes) : IsInts k W v := by
  obtain ⟨a, l, c, rfl⟩ := okWide_slice ht hv
  obtain ⟨fuel, hf⟩ := hd
  exact rd_ints ht he hc hb (by simpa [Value.cells] using hf) hs
theorem isString_of (ht : P.underlying t = some .string) (hv : Value.okWide P W r b0 t v) (hd : DataW.Trod enc P W base spare held t v d ps) (hs : ∀ n ∈ d.weights P t, n ≤ reachBytes) : IsString W v := by
  obtain ⟨s, rfl, rfl, _, _⟩ := Go.ChangeMaps.open_string ht hv hd
  have := hs s.data.toList.length (by simp [DataW.weights])
  have h1 : reachBytes ≤ 140737488355328 := by decide
  exact ⟨s, rfl, by simp at this; have e : s.size = s.data.size := rfl; omega⟩
theorem trod_lt' (hd : DataW.Trod enc P W base spare held t v d ps) : ∀ x ∈ ps, x.block < W.heap.size := by
  obtain ⟨m, hm⟩ := hd
  exact DataW.trod_lt m _ _ _ hm
theorem sized_at {ts : List TypeId} {ds : List (DataW H)} (h : (DataW.weightsEach P ts ds).all (fun n => decide (n ≤ reachBytes)) = true) (j : Nat) {t : TypeId} {d : DataW H} (ht : ts[j]? = some t) (hd : ds[j]? = some d) : ∀ n ∈ d.weights P t, n ≤ reachBytes := by
  intro n hn
  have := List.all_eq_true.1 h _ (DataW.weights_mem_each ht hd n hn)
  simpa using this
end

/-! ### append of one element to a row of the call's own -/
structure Elem (P : Program) (t e : TypeId) (size bytes : Nat) : Prop where
  und : P.underlying t = some (.slice e)
  info : ∃ i z, P.info? e = some i ∧ i.zero = some z ∧ i.size = size ∧ i.bytes = bytes ∧ z.cells.size = size
  pos : 0 < size

theorem elem_of {P : Program} {t e : TypeId} {z : Value} {size bytes : Nat} (hu : P.underlying t = some (.slice e)) (h : (P.info? e).map (fun i => (i.zero, i.size, i.bytes)) = some (some z, size, bytes)) (hz : z.cells.size = size) (hp : 0 < size) : Elem P t e size bytes := by
  obtain ⟨i, h1, h2, h3, h4⟩ := info_parts h
  exact ⟨hu, ⟨i, z, h1, h2, h3, h4, hz⟩, hp⟩

theorem fresh_cells (W : World) (cells : List Value) (e : TypeId) (j : Nat) (u : Value) (h : cells[j]? = some u) : (W.alloc (.cells cells.toArray e)).cell? ((⟨W.heap.size, 0, none⟩ : Addr).add j) = some u := by
  rw [addr_add, cell_of_row _ _ _ _ e (0, 0) (heap_alloc_new W _)]
  simpa using h

theorem grown_trans {a b c : World} {row : Option Nat} (h : a.grownBy b row) (k : b.grownBy c row) : a.grownBy c row :=
  ⟨k.os.trans h.os, k.tape.trans h.tape, k.output.trans h.output, Nat.le_trans h.size k.size, fun j hj hne => (k.block j (Nat.lt_of_lt_of_le hj h.size) hne).trans (h.block j hj hne)⟩

theorem append1 {P : Program} {ops : Array Oper} {rest : List Oper} {o : Oper} {a : Act} {Q : Exit → Act → World → Prop} {w0 W : World} {B : Nat} {t e : TypeId} {size bytes n : Nat} {xs : List Value} {v : Value} (cells : List Value)
    (el : Elem P t e size bytes) (hgd : o.guard = none) (s x : Operand) (ho : o.op = .call { callee := .builtin .append, args := #[s, x], argTypes := #[t, t] })
    (hown : W.ownsRow B e size v n xs) (hbel : Below B w0 W) (hB : B ≤ W.heap.size) (hs : a.eval s = v) (hx : a.eval x = .slice (some ⟨W.heap.size, 0, none⟩) 1 1)
    (hl : cells.length = size) (h1 : ∀ u ∈ cells, u.oneCell' = true) (h47 : (n + 1) * bytes ≤ 140737488355328) (h63 : n + 1 ≤ 9223372036854775807)
    (h : ∀ v' w', w'.ownsRow B e size v' (n + 1) (xs ++ cells) → Below B w0 w' → W.grownBy w' v.ownBlock → wpList P ops Q rest (a.put o.dst v') w') :
    wpList P ops Q (o :: rest) a (W.alloc (.cells cells.toArray e)) := by
  obtain ⟨i, z, h2, h3, h4, h5, h6⟩ := el.info
  refine wpList_append_own _ hgd s x t ho B e i z size bytes el.und h2 h3 h4 h5 h6 el.pos v n xs hs (hown.alloc _) ⟨W.heap.size, 0, none⟩ 1 1 cells hx (by rw [Nat.one_mul]; exact hl) (fresh_cells W cells e) h1 (by unfold maxLen; exact h63) h47 (by simp; omega) ?_
  intro v' w' hown' hg _
  refine h v' w' hown' ?_ ?_
  · refine Below.grown (hbel.alloc hB _) hg (by simp; omega) ?_
    intro k hk
    exact (hown.lt k hk).1
  · exact grown_trans (World.grownBy_alloc W _ _) hg

theorem one_all (u : Value) (h : u.oneCell' = true) : ∀ x ∈ [u], x.oneCell' = true := by
  intro x hx; simp at hx; subst hx; exact h
theorem ret_eq {a b : Value} (h : a = b) : Ending.returned a = .returned b := by rw [h]

theorem own_build (W : World) {B : Nat} {e : TypeId} {size n : Nat} (cells : List Value) (hB : B ≤ W.heap.size) (hl : cells.length = n * size) (hn : n ≤ 9223372036854775807) :
    (W.alloc (.cells cells.toArray e)).ownsRow B e size (.slice (some ⟨W.heap.size, 0, none⟩) n n) n cells :=
  ⟨hl, .inr ⟨W.heap.size, n, cells.toArray, rfl, hB, heap_alloc_new W _, Nat.le_refl _, hn, by simpa using hl, by rw [List.take_of_length_le (by simp; omega)]⟩⟩

theorem own_below {w w' : World} {B : Nat} {e : TypeId} {size : Nat} {v : Value} {n : Nat} {xs : List Value} (h : w.ownsRow B e size v n xs) (hb : Below w.heap.size w w') : w'.ownsRow B e size v n xs := by
  refine ⟨h.1, ?_⟩
  rcases h.2 with hn | ⟨g, cap, cur, rfl, hb', hgg, rest⟩
  · exact .inl hn
  · refine .inr ⟨g, cap, cur, rfl, hb', ?_, rest⟩
    rw [hb.block g (Array.getElem?_eq_some_iff.1 hgg).1]
    exact hgg
theorem own_mono {w : World} {B B' : Nat} {e : TypeId} {size : Nat} {v : Value} {n : Nat} {xs : List Value} (h : w.ownsRow B e size v n xs) (hb : B' ≤ B) : w.ownsRow B' e size v n xs := by
  refine ⟨h.1, ?_⟩
  rcases h.2 with hn | ⟨g, cap, cur, rfl, hb', rest⟩
  · exact .inl hn
  · exact .inr ⟨g, cap, cur, rfl, Nat.le_trans hb hb', rest⟩
theorem own_some {w : World} {B : Nat} {e : TypeId} {size : Nat} {v : Value} {n : Nat} {xs : List Value} (h : w.ownsRow B e size v n xs) (hn : 0 < n) : ∃ g cap, v = .slice (some ⟨g, 0, none⟩) n cap ∧ B ≤ g ∧ g < w.heap.size ∧ n ≤ cap ∧ cap ≤ 9223372036854775807 ∧ ∀ j u, xs[j]? = some u → w.cell? ⟨g, j, none⟩ = some u := by
  have h0 := h
  rcases h.2 with ⟨rfl, hz⟩ | ⟨g, cap, cur, rfl, hb', hgg, h1, h2, h3, h4⟩
  · omega
  · refine ⟨g, cap, rfl, hb', (Array.getElem?_eq_some_iff.1 hgg).1, h1, h2, fun j u hu => ?_⟩
    have := h0.cells (g := g) rfl j u hu
    rw [addr_add] at this
    simpa using this

/-- append of a slice that is not empty to a row of the call's own. -/
theorem appendN {P : Program} {ops : Array Oper} {rest : List Oper} {o : Oper} {a : Act} {Q : Exit → Act → World → Prop} {w0 W : World} {B : Nat} {t e : TypeId} {size bytes n m c b off : Nat} {xs news : List Value} {v : Value}
    (el : Elem P t e size bytes) (hgd : o.guard = none) (s x : Operand) (ho : o.op = .call { callee := .builtin .append, args := #[s, x], argTypes := #[t, t] })
    (hown : W.ownsRow B e size v n xs) (hbel : Below B w0 W) (hB : B ≤ W.heap.size) (hs : a.eval s = v) (hx : a.eval x = .slice (some ⟨b, off, none⟩) m c)
    (hl : news.length = m * size) (hnews : ∀ j u, news[j]? = some u → W.cell? ⟨b, off + j, none⟩ = some u) (h1 : ∀ u ∈ news, u.oneCell' = true) (h47 : (n + m) * bytes ≤ 140737488355328) (h63 : n + m ≤ 9223372036854775807)
    (h : ∀ v' w', w'.ownsRow B e size v' (n + m) (xs ++ news) → Below B w0 w' → W.grownBy w' v.ownBlock → wpList P ops Q rest (a.put o.dst v') w') :
    wpList P ops Q (o :: rest) a W := by
  obtain ⟨i, z, h2, h3, h4, h5, h6⟩ := el.info
  refine wpList_append_own _ hgd s x t ho B e i z size bytes el.und h2 h3 h4 h5 h6 el.pos v n xs hs hown ⟨b, off, none⟩ m c news hx hl (fun j u hu => by rw [addr_add]; exact hnews j u hu) h1 (by unfold maxLen; exact h63) h47 hB ?_
  intro v' w' hown' hg _
  refine h v' w' hown' ?_ hg
  refine Below.grown hbel hg hB ?_
  intro k hk
  exact (hown.lt k hk).1

/-! ### bytes as a string -/
def bstr (l : List Int) : ByteArray := ⟨(l.map fun z => UInt8.ofNat z.toNat).toArray⟩
theorem foldl_push (l : List Int) : ∀ (s : ByteArray), l.foldl (fun r n => r.push (UInt8.ofNat n.toNat)) s = ⟨s.data ++ (l.map fun z => UInt8.ofNat z.toNat).toArray⟩ := by
  induction l with
  | nil => intro s; simp
  | cons z l ih =>
    intro s
    rw [List.foldl_cons, ih]
    simp [ByteArray.push]
theorem bstr_inj {l l' : List Int} (h1 : ∀ z ∈ l, (Lit.int .u8 z).wf = true) (h2 : ∀ z ∈ l', (Lit.int .u8 z).wf = true) (h : bstr l = bstr l') : l = l' := by
  have h : l.map (fun z => UInt8.ofNat z.toNat) = l'.map (fun z => UInt8.ofNat z.toNat) := by
    have := congrArg (fun b : ByteArray => b.data.toList) h
    simpa [bstr] using this
  induction l generalizing l' with
  | nil => cases l' with
    | nil => rfl
    | cons b l' => simp at h
  | cons a l ih => cases l' with
    | nil => simp at h
    | cons b l' =>
      simp only [List.map_cons, List.cons.injEq] at h
      have ha := wf_u8 (h1 a (by simp))
      have hb := wf_u8 (h2 b (by simp))
      have e := congrArg UInt8.toNat h.1
      rw [UInt8.toNat_ofNat', UInt8.toNat_ofNat'] at e
      have : a = b := by omega
      subst this
      rw [ih (fun z hz => h1 z (by simp [hz])) (fun z hz => h2 z (by simp [hz])) (by rename_i h0; exact congrArg (fun l : List UInt8 => ByteArray.mk l.toArray) h.2) h.2]

theorem run_bytes {P : Program} {w : World} {v : Value} {n : Nat} {l : List Int} {src dst e : TypeId} (hs : P.underlying src = some (.slice e)) (he : P.underlying e = some (.int .u8)) (hd : P.underlying dst = some .string)
    (hv : Sl w 1 v n (l.map (Value.int .u8))) : (convert src dst v).run P w = .ok (.string (bstr l)) w := by
  obtain ⟨ao, c, rfl, h1, h2, h3⟩ := hv.shape
  rw [run_convert_bytes_string w src dst e ao n c hs he hd]
  have hln : l.length = n := by simpa using h3
  cases ao with
  | none =>
    have : n = 0 := by
      rcases Nat.eq_zero_or_pos n with h | h
      · exact h
      · obtain ⟨ao', cap, h1, _, _, _, _, h6⟩ := hv
        obtain ⟨b, off, h, _⟩ := h6 h
        simp at h1
        rw [h] at h1; simp at h1
    have : l = [] := List.length_eq_zero_iff.1 (by omega)
    subst this
    simp [Conv.bytesToString, bstr, Sem.run_pure]
    rfl
  | some a =>
    have hload : (loadCells a n).run P w = .ok (l.map (Value.int .u8)).toArray w := by
      have := run_loadCells_list (P := P) w a (l.map (Value.int .u8)) (fun j u hu => by
        have hpos : 0 < n := by
          rcases Nat.lt_or_ge j (l.map (Value.int .u8)).length with h | h
          · simp at h; omega
          · rw [List.getElem?_eq_none h] at hu; simp at hu
        obtain ⟨ao', cap, h1, _, _, _, _, h6⟩ := hv
        obtain ⟨b, off, h, hc⟩ := h6 hpos
        simp at h1
        rw [h] at h1
        have ha : a = ⟨b, off, none⟩ := by simpa using h1.1
        subst ha
        rw [addr_add]
        exact hc j u hu)
      rwa [List.length_map, hln] at this
    rw [run_bytesToString w a n c l hload, foldl_push]
    simp [bstr]

/-- From here on only R is known of the world. -/
theorem wp_abs {P : Program} {c : Code} {Q : Exit → Act → World → Prop} {a : Act} {w0 : World} (R : World → Prop) (hR : R w0) (h : ∀ w1, R w1 → c.wp P Q a w1) : c.wp P Q a w0 := h _ hR

theorem Sl.alloc {w : World} {size n : Nat} {v : Value} {xs : List Value} (h : Sl w size v n xs) (o : Obj) : Sl (w.alloc o) size v n xs := h.below ((Below.refl _ _).alloc (Nat.le_refl _) o)
theorem sl_new (W : World) {e : TypeId} {size n : Nat} (cells : List Value) (hl : cells.length = n * size) (hn : n ≤ 9223372036854775807) : Sl (W.alloc (.cells cells.toArray e)) size (.slice (some ⟨W.heap.size, 0, none⟩) n n) n cells :=
  own_sl (own_build (B := 0) W cells (Nat.zero_le _) hl hn)
theorem cell_new (W : World) (e : TypeId) (cells : List Value) (j : Nat) (u : Value) (h : cells[j]? = some u) : (W.alloc (.cells cells.toArray e)).cell? ⟨W.heap.size, j, none⟩ = some u := by
  have := fresh_cells W cells e j u h
  rw [addr_add] at this
  simpa using this

/-- make([]T, 0, n). -/
theorem make0 {P : Program} {ops : Array Oper} {rest : List Oper} {o : Oper} {a : Act} {Q : Exit → Act → World → Prop} {w0 W : World} {B : Nat} {t e : TypeId} {size bytes : Nat}
    (el : Elem P t e size bytes) (hgd : o.guard = none) (l c : Operand) (ho : o.op = Op.makeSlice t l c) (kl kc : IntKind) (C : Int) (n : Nat) (hl : a.eval l = .int kl 0) (hc : a.eval c = .int kc C) (hC : C = (n : Int))
    (hb : bytes * n ≤ 281474976710656) (h63 : n ≤ 9223372036854775807) (hbel : Below B w0 W) (hB : B ≤ W.heap.size)
    (h : ∀ w', w'.ownsRow B e size (.slice (some ⟨W.heap.size, 0, none⟩) 0 n) 0 [] → Below B w0 w' → W.grownBy w' none → wpList P ops Q rest (a.put o.dst (.slice (some ⟨W.heap.size, 0, none⟩) 0 n)) w') :
    wpList P ops Q (o :: rest) a W := by
  obtain ⟨i, z, h2, h3, h4, h5, h6⟩ := el.info
  refine wpList_make_own W hgd l c t ho B e i z size el.und h2 h3 h4 kl kc C n hl hc hC (by rw [h5]; exact hb) (by unfold maxLen; exact h63) hB ?_
  intro w' h7 h8
  exact h w' h7 (Below.grown hbel h8 hB (fun k hk => by simp at hk)) h8

/-- append of whatever slice that has an address to a row of the call's own. -/
theorem appendS {P : Program} {ops : Array Oper} {rest : List Oper} {o : Oper} {a : Act} {Q : Exit → Act → World → Prop} {w0 W : World} {B : Nat} {t e : TypeId} {size bytes n m c : Nat} {ad : Addr} {xs news : List Value} {v : Value}
    (el : Elem P t e size bytes) (hgd : o.guard = none) (s x : Operand) (ho : o.op = .call { callee := .builtin .append, args := #[s, x], argTypes := #[t, t] })
    (hown : W.ownsRow B e size v n xs) (hbel : Below B w0 W) (hB : B ≤ W.heap.size) (hs : a.eval s = v) (hx : a.eval x = .slice (some ad) m c)
    (hsl : Sl W size (.slice (some ad) m c) m news) (h1 : ∀ u ∈ news, u.oneCell' = true) (h47 : (n + m) * bytes ≤ 140737488355328) (h63 : n + m ≤ 9223372036854775807)
    (h : ∀ v' w', w'.ownsRow B e size v' (n + m) (xs ++ news) → Below B w0 w' → W.grownBy w' v.ownBlock → wpList P ops Q rest (a.put o.dst v') w') :
    wpList P ops Q (o :: rest) a W := by
  obtain ⟨i, z, h2, h3, h4, h5, h6⟩ := el.info
  obtain ⟨ao', cap, e1, _, _, _, hl, hc⟩ := hsl
  simp at e1
  obtain ⟨rfl, rfl⟩ := e1
  refine wpList_append_own _ hgd s x t ho B e i z size bytes el.und h2 h3 h4 h5 h6 el.pos v n xs hs hown ad m c news hx hl ?_ h1 (by unfold maxLen; exact h63) h47 hB ?_
  · intro j u hu
    have hm : 0 < m := by
      rcases Nat.eq_zero_or_pos m with h | h
      · subst h
        have : news = [] := List.length_eq_zero_iff.1 (by simpa using hl)
        subst this; simp at hu
      · exact h
    obtain ⟨b, off, e2, hc'⟩ := hc hm
    have : ad = ⟨b, off, none⟩ := by simpa using e2
    subst this
    rw [addr_add]
    exact hc' j u hu
  · intro v' w' hown' hg _
    refine h v' w' hown' ?_ hg
    refine Below.grown hbel hg hB ?_
    intro k hk
    exact (hown.lt k hk).1
end Go.Gh
/-
  Words shared by the walks, part two: appends beside a struct of the call's own.
-/
namespace Go.Gh
open Go.RowKit
set_option linter.unusedVariables false

theorem below_own {w0 W w' : World} {B Bo : Nat} {e : TypeId} {size n : Nat} {v : Value} {xs : List Value} (hown : W.ownsRow Bo e size v n xs) (hbel : Below B w0 W) (hBo : B ≤ Bo) (hsz : B ≤ W.heap.size) (hg : W.grownBy w' v.ownBlock) : Below B w0 w' :=
  Below.grown hbel hg hsz (fun k hk => Nat.le_trans hBo (hown.lt k hk).1)

/-- A cell of another block stays, behind what grows an owned row. -/
theorem grown_cell {W w' : World} {Bo : Nat} {e : TypeId} {size n : Nat} {v : Value} {xs : List Value} (hown : W.ownsRow Bo e size v n xs) (hg : W.grownBy w' v.ownBlock) {b o : Nat} {u : Value} (hb : b < Bo) (hc : W.cell? ⟨b, o, none⟩ = some u) : w'.cell? ⟨b, o, none⟩ = some u := by
  refine hg.cell hc ?_
  intro h
  have := (hown.lt b (h.symm)).1
  omega
theorem grown_block {W w' : World} {Bo : Nat} {e : TypeId} {size n : Nat} {v : Value} {xs : List Value} (hown : W.ownsRow Bo e size v n xs) (hg : W.grownBy w' v.ownBlock) {b : Nat} {o : Obj} (hb : b < Bo) (hc : W.heap[b]? = some o) : w'.heap[b]? = some o := by
  rw [hg.block b (Array.getElem?_eq_some_iff.1 hc).1 ?_]
  · exact hc
  · intro h
    have := (hown.lt b (h.symm)).1
    omega

/-- append of one fresh element to an owned row, as one step of a region that draws. -/
theorem step_app1 {P : Program} {ops : Array Oper} {o : Oper} {a : Act} {K : Act → World → Prop} {Q : Exit → Act → World → Prop} {E : Prop} {w0 W : World} {B Bo : Nat} {t e : TypeId} {size bytes n : Nat} {xs : List Value} {v : Value} (cells : List Value)
    (el : Elem P t e size bytes) (hgd : o.guard = none) (s x : Operand) (ho : o.op = .call { callee := .builtin .append, args := #[s, x], argTypes := #[t, t] })
    (hown : W.ownsRow Bo e size v n xs) (hbel : Below B w0 W) (hBo : B ≤ Bo) (hB : Bo ≤ W.heap.size) (hs : a.eval s = v) (hx : a.eval x = .slice (some ⟨W.heap.size, 0, none⟩) 1 1)
    (hl : cells.length = size) (h1 : ∀ u ∈ cells, u.oneCell' = true) (h47 : (n + 1) * bytes ≤ 140737488355328) (h63 : n + 1 ≤ 9223372036854775807)
    (h : ∀ g cap w', w'.ownsRow Bo e size (.slice (some ⟨g, 0, none⟩) (n + 1) cap) (n + 1) (xs ++ cells) → Below B w0 w' → W.grownBy w' v.ownBlock → K (a.put o.dst (.slice (some ⟨g, 0, none⟩) (n + 1) cap)) w') :
    if Region.wanted o (yielded ops a.tmps) = true then Oper.wp P o a (W.alloc (.cells cells.toArray e)) K Q else E := by
  obtain ⟨i, z, h2, h3, h4, h5, h6⟩ := el.info
  refine step_append_lies _ hgd s x t ho Bo e i z size bytes el.und h2 h3 h4 h5 h6 el.pos v n xs hs (hown.alloc _) ⟨W.heap.size, 0, none⟩ 1 1 cells hx (by rw [Nat.one_mul]; exact hl) (fresh_cells W cells e) h1 (by decide) (by unfold maxLen; exact h63) h47 (by simp; omega) _ rfl ?_
  intro g cap w' hown' hg _ _
  have hg' := grown_trans (World.grownBy_alloc W (Obj.cells cells.toArray e) v.ownBlock) hg
  exact h g cap w' hown' (below_own hown hbel hBo (by omega) hg') hg'
theorem row_cell {w : World} {b : Nat} {cs : Array Value} {e : TypeId} (i : Nat) (u : Value) (h : w.heap[b]? = some (.cells cs e (0, 0))) (hi : cs[i]? = some u) : w.cell? ⟨b, i, none⟩ = some u ∧ w.frozen? ⟨b, i, none⟩ = false := by
  constructor
  · simp [World.cell?, h, hi]
  · simp [World.frozen?, h]
theorem row_setCell {w : World} {b : Nat} {cs : Array Value} {e : TypeId} (i : Nat) (u : Value) (h : w.heap[b]? = some (.cells cs e (0, 0))) : (w.setCell ⟨b, i, none⟩ u).heap[b]? = some (.cells (cs.setIfInBounds i u) e (0, 0)) := by
  simp [World.setCell, h, Array.getElem?_modify]
theorem row_setCell_other {w : World} {b b' i : Nat} {o : Obj} (u : Value) (h : w.heap[b]? = some o) (hne : b ≠ b') : (w.setCell ⟨b', i, none⟩ u).heap[b]? = some o := by
  rw [Below.heap_setCell w ⟨b', i, none⟩ u b hne]; exact h
theorem two_first (w : World) (o o' : Obj) : ((w.alloc o).alloc o').heap[w.heap.size]? = some o := by
  rw [Below.heap_alloc (w.alloc o) o' w.heap.size (by simp)]
  exact heap_alloc_new w o
theorem two_second (w : World) (o o' : Obj) : ((w.alloc o).alloc o').heap[w.heap.size + 1]? = some o' := by
  have := heap_alloc_new (w.alloc o) o'
  rwa [World.size_alloc] at this

theorem own_block_ne {w : World} {B : Nat} {e e' : TypeId} {size n b : Nat} {v : Value} {xs : List Value} {cs : Array Value} {fr : Nat × Nat} (h : w.ownsRow B e size v n xs) (hb : w.heap[b]? = some (.cells cs e' fr)) (hne : e ≠ e') : v.ownBlock ≠ some b := by
  rcases h.2 with ⟨rfl, _⟩ | ⟨g, cap, cur, rfl, _, hg, _⟩
  · simp [Value.ownBlock]
  · intro h'
    simp [Value.ownBlock] at h'
    subst h'
    rw [hb] at hg
    simp at hg
    exact hne hg.2.1.symm
theorem grown_block2 {W w' : World} {row : Option Nat} (hg : W.grownBy w' row) {b : Nat} {o : Obj} (hne : row ≠ some b) (hc : W.heap[b]? = some o) : w'.heap[b]? = some o := by
  rw [hg.block b (Array.getElem?_eq_some_iff.1 hc).1 (fun h => hne h.symm)]
  exact hc

theorem grown_setCell {w w' : World} {b : Nat} (h : w.grownBy w' (some b)) (i : Nat) (u : Value) : w.grownBy (w'.setCell ⟨b, i, none⟩ u) (some b) :=
  ⟨h.os, h.tape, h.output, by simpa using h.size, fun k hk hne => by
    rw [Below.heap_setCell w' ⟨b, i, none⟩ u k (fun e => hne (by rw [e]))]
    exact h.block k hk hne⟩
theorem grown_drewN {w w' : World} {r : Option Nat} (h : w.grownBy w' r) (n : Nat) : w.grownBy (w'.drewN n) r := ⟨h.os, h.tape, h.output, h.size, h.block⟩
theorem below_of_grown {w w' : World} {r : Option Nat} {B : Nat} (h : w.grownBy w' r) (hB : B ≤ w.heap.size) (hr : ∀ k, r = some k → B ≤ k) : Below B w w' := Below.grown (Below.refl _ _) h hB hr

/-- 'append1' where the new cell's block is spelled as a number. -/
theorem append1p {P : Program} {ops : Array Oper} {rest : List Oper} {o : Oper} {a : Act} {Q : Exit → Act → World → Prop} {w0 W : World} {B p : Nat} {t e : TypeId} {size bytes n : Nat} {xs : List Value} {v : Value} (cells : List Value)
    (el : Elem P t e size bytes) (hgd : o.guard = none) (s x : Operand) (ho : o.op = .call { callee := .builtin .append, args := #[s, x], argTypes := #[t, t] })
    (hown : W.ownsRow B e size v n xs) (hbel : Below B w0 W) (hB : B ≤ W.heap.size) (hs : a.eval s = v) (hx : a.eval x = .slice (some ⟨p, 0, none⟩) 1 1) (hp : p = W.heap.size)
    (hl : cells.length = size) (h1 : ∀ u ∈ cells, u.oneCell' = true) (h47 : (n + 1) * bytes ≤ 140737488355328) (h63 : n + 1 ≤ 9223372036854775807)
    (h : ∀ v' w', w'.ownsRow B e size v' (n + 1) (xs ++ cells) → Below B w0 w' → W.grownBy w' v.ownBlock → wpList P ops Q rest (a.put o.dst v') w') :
    wpList P ops Q (o :: rest) a (W.alloc (.cells cells.toArray e)) := by
  subst hp
  exact append1 cells el hgd s x ho hown hbel hB hs hx hl h1 h47 h63 h
end Go.Gh
/-
  A row of uint64 in one block; Less; reverseRange.
-/
namespace Go.Proofs.Ytlfhcjhbnakamaa.Qs
open Go.RowKit Go.Gh
set_option linter.unusedVariables false
set_option linter.unusedSimpArgs false
def u64 (D : List Int) : List Value := D.map (Value.int .u64)
/-- The row's block. -/
def RowAt (g : Nat) (D : List Int) (rest : List Value) (w : World) : Prop := w.heap[g]? = some (.cells (u64 D ++ rest).toArray 22 (0, 0))
section
variable {g : Nat} {D : List Int} {rest : List Value} {w : World}
theorem RowAt.get (h : RowAt g D rest w) {i : Nat} (hi : i < D.length) : w.cell? ⟨g, i, none⟩ = some (.int .u64 (el D i)) ∧ w.frozen? ⟨g, i, none⟩ = false := by
  refine row_cell i _ h ?_
  unfold u64
  rw [List.getElem?_toArray, List.getElem?_append_left (by rw [List.length_map]; exact hi), List.getElem?_map, el_get hi]
  rfl
theorem u64_set (D : List Int) (i : Nat) (x : Int) (rest : List Value) (hi : i < D.length) : (u64 D ++ rest).set i (.int .u64 x) = u64 (D.set i x) ++ rest := by
  unfold u64
  rw [List.set_append_left _ _ (by rw [List.length_map]; exact hi), List.map_set]
theorem RowAt.set (h : RowAt g D rest w) {i : Nat} (hi : i < D.length) (x : Int) : RowAt g (D.set i x) rest (w.setCell ⟨g, i, none⟩ (.int .u64 x)) := by
  have h1 := row_setCell i (.int .u64 x) h
  rw [List.setIfInBounds_toArray, u64_set D i x rest hi] at h1
  exact h1
theorem RowAt.swap (h : RowAt g D rest w) {i j : Nat} (hi : i < D.length) (hj : j < D.length) : RowAt g (sw D i j) rest ((w.setCell ⟨g, i, none⟩ (.int .u64 (el D j))).setCell ⟨g, j, none⟩ (.int .u64 (el D i))) :=
  (h.set hi (el D j)).set (by rw [List.length_set]; exact hj) (el D i)
theorem RowAt.grown {w' : World} (h : RowAt g D rest w) {r : Option Nat} (hg : w.grownBy w' r) (hr : r ≠ some g) : RowAt g D rest w' := grown_block2 hg hr h
theorem RowAt.below {w' : World} (h : RowAt g D rest w) (hb : Below w.heap.size w w') : RowAt g D rest w' := (hb.block g (Array.getElem?_eq_some_iff.1 h).1).trans h
theorem RowAt.lt (h : RowAt g D rest w) : g < w.heap.size := (Array.getElem?_eq_some_iff.1 h).1
theorem grown_below {w w' : World} {r : Option Nat} (h : Below w.heap.size w w') : w.grownBy w' r := ⟨h.os, h.tape, h.output, h.size, fun k hk _ => h.block k hk⟩
/-- All that a swap's region wants. -/
theorem RowAt.swaps (h : RowAt g D rest w) {i j : Nat} (hi : i < D.length) (hj : j < D.length) : (w.cell? ⟨g, i, none⟩ = some (.int .u64 (el D i)) ∧ w.cell? ⟨g, j, none⟩ = some (.int .u64 (el D j))) ∧ (w.frozen? ⟨g, i, none⟩ = false ∧ w.frozen? ⟨g, j, none⟩ = false ∧ (w.setCell ⟨g, i, none⟩ (.int .u64 (el D j))).frozen? ⟨g, j, none⟩ = false) ∧
    RowAt g (sw D i j) rest ((w.setCell ⟨g, i, none⟩ (.int .u64 (el D j))).setCell ⟨g, j, none⟩ (.int .u64 (el D i))) :=
  ⟨⟨(h.get hi).1, (h.get hj).1⟩, ⟨(h.get hi).2, (h.get hj).2, ((h.set hi (el D j)).get (by rw [List.length_set]; exact hj)).2⟩, h.swap hi hj⟩
theorem RowAt.once (h : RowAt g D rest w) {i j : Nat} (hi : i < D.length) (hj : j < D.length) : (w.setCell ⟨g, i, none⟩ (.int .u64 (el D j))).cell? ⟨g, j, none⟩ = some (.int .u64 (el (D.set i (el D j)) j)) :=
  ((h.set hi (el D j)).get (by rw [List.length_set]; exact hj)).1
theorem grown_swap {w0 : World} (h : w0.grownBy w (some g)) (i j : Nat) (u v : Value) : w0.grownBy ((w.setCell ⟨g, i, none⟩ u).setCell ⟨g, j, none⟩ v) (some g) := grown_setCell (grown_setCell h i u) j v
end
/-- What a call that turns a row by swaps leaves. -/
def QsP (g : Nat) (rest : List Value) (a b : Nat) (D : List Int) (Q : List Int → Prop) (w w' : World) : Prop := ∃ E, Pm a b D E ∧ Q E ∧ RowAt g E rest w' ∧ w.grownBy w' (some g)
theorem isnan_any (x : Int) (w : World) : Calls Try.prog 133 #[.int .u64 x] w fun e w' => e = .returned (.bool false) ∧ w = w' := by
  go_enter Try.func133, Try.ntmps133
  go_wp2_with fail
  go_ret
  exact ⟨rfl, rfl⟩
theorem less_any (x y : Int) (w : World) : Calls Try.prog 125 #[.int .u64 x, .int .u64 y] w fun e w' => e = .returned (.bool (decide (x < y))) ∧ w = w' := by
  go_enter Try.func125, Try.ntmps125
  go_wp2_with (go_at_call 133; refine (isnan_any _ _).mono ?_; rintro e w2 ⟨rfl, rfl⟩)
  go_ret
  exact ⟨rfl, rfl⟩
theorem less_q (x y : Int) (w : World) : Calls Try.prog 125 #[.int .u64 x, .int .u64 y] w fun e w' => e = .returned (.bool (decide (x < y))) ∧ ∃ q, w' = w.drewN q :=
  (less_any x y w).mono fun e w' ⟨h1, h2⟩ => ⟨h1, 0, h2.symm⟩
set_option maxHeartbeats 4000000 in
set_option maxRecDepth 100000 in
theorem reverse_any (g cap a b : Nat) (D : List Int) (rest : List Value) (w : World) (hR : RowAt g D rest w) (hab : a ≤ b) (hb : b ≤ D.length) (hn : D.length ≤ 1000000) (hcap : D.length ≤ cap) (hc : cap ≤ 9223372036854775807) :
    Calls Try.prog 123 #[.slice (some ⟨g, 0, none⟩) D.length cap, .int .i64 a, .int .i64 b] w fun e w' => e = .returned (.tuple #[]) ∧ QsP g rest a b D (fun _ => True) w w' := by
  obtain ⟨n, hN⟩ : ∃ n, D.length = n := ⟨_, rfl⟩
  rw [hN] at hb hn hcap ⊢
  have HN := Lib.hid hN
  have HR := Lib.hid hR
  clear hN hR
  go_enter Try.func123, Try.ntmps123
  go_wp2_with fail
  go_loopw [6, 7] (fun i j wr => ∃ (k m : Nat) (E : List Int), i = .int .i64 k ∧ j = .int .i64 ((m : Int) - 1) ∧ a ≤ k ∧ m ≤ b ∧ Hid (Pm a b D E) ∧ Hid (RowAt g E rest wr) ∧ Hid (w.grownBy wr (some g))) (fun i j _ => (intOf j - intOf i + 1).toNat)
  case atStart => exact ⟨a, b, D, rfl, rfl, Nat.le_refl _, Nat.le_refl _, Lib.hid .refl, HR, Lib.hid (grown_below (Below.refl _ _))⟩
  case round =>
    obtain ⟨k, m, E, rfl, rfl, hk, hm, HP, HE, HG⟩ := hrel
    by_cases hlt : (k : Int) < (m : Int) - 1
    case neg =>
      go_wp2_with fail
      go_end0
      exact ⟨rfl, E, HP.out, trivial, HE.out, HG.out⟩
    obtain ⟨q, rfl⟩ : ∃ q, m = q + 1 := ⟨m - 1, by omega⟩
    have hEl : E.length = n := by rw [HP.out.len]; exact HN.out
    obtain ⟨⟨ci, cj⟩, ⟨fi, fj, fij⟩, hS⟩ := HE.out.swaps (i := k) (j := q) (by omega) (by omega)
    have HS := Lib.hid hS
    have HEL := Lib.hid hEl
    have hqi : ((q + 1 : Nat) : Int) - 1 = (q : Int) := by omega
    rw [hqi] at hlt ⊢
    have hq1 : (q : Int) < (n : Int) := by omega
    have hk1 : (k : Int) < (n : Int) := by omega
    have hk2 : k < n := by omega
    have hq2 : q < n := by omega
    have HP2 := Lib.hid (HP.out.step (i := k) (j := q) hk (by omega) (by omega) (by omega))
    clear hS hEl hqi
    go_upto_region 3 with (fail)
    go_region
    obtain ⟨wn, hwn⟩ : ∃ wn, wn = ((wr.setCell ⟨g, k, none⟩ (.int .u64 (el E q))).setCell ⟨g, q, none⟩ (.int .u64 (el E k))).drew := ⟨_, rfl⟩
    have HE2 : Hid (RowAt g (sw E k q) rest wn) := Lib.hid (by rw [hwn]; exact HS.out)
    have HG2 : Hid (w.grownBy wn (some g)) := Lib.hid (by rw [hwn]; exact grown_drewN (grown_swap HG.out k q _ _) 1)
    rw [← hwn]
    clear hwn ci cj fi fj fij
    go_wp2_with fail
    go_roundw
    case rel => exact ⟨k + 1, q, _, by go_num, by go_num, by omega, by omega, HP2, HE2, HG2⟩
    case measure => simp [intOf]; omega
end Go.Proofs.Ytlfhcjhbnakamaa.Qs
/-
  order2, median, medianAdjacent, choosePivot.
-/
namespace Go.Proofs.Ytlfhcjhbnakamaa.Qs
open Go.RowKit Go.Gh
set_option linter.unusedVariables false
set_option linter.unusedSimpArgs false
/-- The box of the count of swaps. -/
def SwB (sb : Nat) (s : Int) (w : World) : Prop := w.heap[sb]? = some (.cells #[.int .i64 s] 3 (0, 0))
theorem SwB.get {sb : Nat} {s : Int} {w : World} (h : SwB sb s w) : w.cell? ⟨sb, 0, none⟩ = some (.int .i64 s) ∧ w.frozen? ⟨sb, 0, none⟩ = false := row_cell 0 _ h rfl
theorem SwB.set {sb : Nat} {s : Int} {w : World} (h : SwB sb s w) (x : Int) : SwB sb x (w.setCell ⟨sb, 0, none⟩ (.int .i64 x)) := row_setCell 0 (.int .i64 x) h
def O2P (sb a b : Nat) (s : Int) (w : World) (e : Ending) (w' : World) : Prop := ∃ (x y : Nat) (s' : Int), e = .returned (.tuple #[.int .i64 x, .int .i64 y]) ∧ (x = a ∧ y = b ∨ x = b ∧ y = a) ∧ (s ≤ s' ∧ s' ≤ s + 1) ∧ SwB sb s' w' ∧ w.grownBy w' (some sb)
set_option maxHeartbeats 4000000 in
set_option maxRecDepth 100000 in
theorem order2_any (g cap a b sb : Nat) (D : List Int) (rest : List Value) (s : Int) (w : World) (hR : RowAt g D rest w) (hs : SwB sb s w) (h0 : 0 ≤ s) (h1 : s ≤ 1000) (ha : a < D.length) (hb : b < D.length) (hn : D.length ≤ 1000000) (hcap : D.length ≤ cap) (hc : cap ≤ 9223372036854775807) :
    Calls Try.prog 138 #[.slice (some ⟨g, 0, none⟩) D.length cap, .int .i64 a, .int .i64 b, .pointer (some ⟨sb, 0, none⟩)] w (O2P sb a b s w) := by
  obtain ⟨ca, -⟩ := hR.get ha
  obtain ⟨cb, -⟩ := hR.get hb
  obtain ⟨n, hN⟩ : ∃ n, D.length = n := ⟨_, rfl⟩
  rw [hN] at ha hb hn hcap ⊢
  have HS := Lib.hid hs
  obtain ⟨x, hx⟩ : ∃ x, el D a = x := ⟨_, rfl⟩
  obtain ⟨y, hy⟩ : ∃ x, el D b = x := ⟨_, rfl⟩
  rw [hx] at ca
  rw [hy] at cb
  have ha1 : (a : Int) < (n : Int) := by omega
  have hb1 : (b : Int) < (n : Int) := by omega
  have ha0 : (0 : Int) ≤ (a : Int) := by omega
  have hb0 : (0 : Int) ≤ (b : Int) := by omega
  clear hR hs hN hx hy
  go_enter Try.func138, Try.ntmps138
  go_upto_region 1 with (fail)
  by_cases hlt : y < x
  · go_quiet ((go_at_call 125; exact Calls.quiet_of (less_q _ _ _)))
    obtain ⟨wq, hwq⟩ : ∃ wq, wq = w.drewN nq := ⟨_, rfl⟩
    have HS2 : SwB sb s wq := by rw [hwq]; exact HS.out
    obtain ⟨e0, e1⟩ := HS2.get
    have HS3 := Lib.hid (HS2.set (s + 1))
    have HG : Hid (w.grownBy wq (some sb)) := Lib.hid (by rw [hwq]; exact grown_drewN (grown_below (Below.refl _ _)) nq)
    rw [← hwq]
    clear hwq ca cb HS2
    go_wp2_with fail
    go_ret2
    exact ⟨b, a, s + 1, rfl, Or.inr ⟨rfl, rfl⟩, by omega, HS3.out, grown_setCell HG.out 0 _⟩
  · go_quiet ((go_at_call 125; exact Calls.quiet_of (less_q _ _ _)))
    obtain ⟨wq, hwq⟩ : ∃ wq, wq = w.drewN nq := ⟨_, rfl⟩
    have HS2 : SwB sb s wq := by rw [hwq]; exact HS.out
    have HG : Hid (w.grownBy wq (some sb)) := Lib.hid (by rw [hwq]; exact grown_drewN (grown_below (Below.refl _ _)) nq)
    rw [← hwq]
    clear hwq ca cb
    go_wp2_with fail
    go_ret2
    exact ⟨a, b, s, rfl, Or.inl ⟨rfl, rfl⟩, by omega, HS2, HG.out⟩
def MdP (sb a b c : Nat) (s : Int) (w : World) (e : Ending) (w' : World) : Prop := ∃ (x : Nat) (s' : Int), e = .returned (.int .i64 x) ∧ (x = a ∨ x = b ∨ x = c) ∧ (s ≤ s' ∧ s' ≤ s + 3) ∧ SwB sb s' w' ∧ w.grownBy w' (some sb)
theorem some_ne {g sb : Nat} (h : g ≠ sb) : (some sb : Option Nat) ≠ some g := fun e => h (Option.some.inj e).symm
set_option maxHeartbeats 4000000 in
set_option maxRecDepth 100000 in
theorem median_any (g cap a b c sb : Nat) (D : List Int) (rest : List Value) (s : Int) (w : World) (hR : RowAt g D rest w) (hs : SwB sb s w) (hne : g ≠ sb) (h0 : 0 ≤ s) (h1 : s ≤ 900) (ha : a < D.length) (hb : b < D.length) (hcl : c < D.length) (hn : D.length ≤ 1000000) (hcap : D.length ≤ cap) (hc : cap ≤ 9223372036854775807) :
    Calls Try.prog 132 #[.slice (some ⟨g, 0, none⟩) D.length cap, .int .i64 a, .int .i64 b, .int .i64 c, .pointer (some ⟨sb, 0, none⟩)] w (MdP sb a b c s w) := by
  have HO := Lib.hid (fun (a b : Nat) (s : Int) (W : World) (hR : RowAt g D rest W) (hs : SwB sb s W) (h0 : 0 ≤ s) (h1 : s ≤ 1000) (ha : a < D.length) (hb : b < D.length) => order2_any g cap a b sb D rest s W hR hs h0 h1 ha hb hn hcap hc)
  have HR := Lib.hid hR
  have HS := Lib.hid hs
  have HNE := Lib.hid (some_ne hne)
  obtain ⟨n, hN⟩ : ∃ n, D.length = n := ⟨_, rfl⟩
  rw [hN] at ha hb hcl HO ⊢
  clear hR hs hN hn hcap hc hne
  have H1 := Lib.hid (HO.out a b s w HR.out HS.out h0 (by omega) ha hb)
  go_enter Try.func132, Try.ntmps132
  go_wp2_with fail
  refine H1.out.mono ?_
  rintro e w1 ⟨x1, y1, s1, rfl, hxy, hs1, hb1, hg1⟩
  have HR1 := Lib.hid (HR.out.grown hg1 HNE.out)
  have HG1 := Lib.hid hg1
  have hx1 : x1 < n := by omega
  have hy1 : y1 < n := by omega
  have H2 := Lib.hid (HO.out y1 c s1 w1 HR1.out hb1 (by omega) (by omega) hy1 hcl)
  have HXY := Lib.hid hxy
  have HS1 := Lib.hid hs1
  clear hxy hb1 hg1
  go_wp2_with fail
  refine H2.out.mono ?_
  rintro e w2 ⟨x2, y2, s2, rfl, hxy2, hs2, hb2, hg2⟩
  have HR2 := Lib.hid (HR1.out.grown hg2 HNE.out)
  have HG2 := Lib.hid (grown_trans HG1.out hg2)
  have hx2 : x2 < n := by omega
  have H3 := Lib.hid (HO.out x1 x2 s2 w2 HR2.out hb2 (by omega) (by omega) hx1 hx2)
  have HXY2 := Lib.hid hxy2
  have HS2 := Lib.hid hs2
  clear hxy2 hb2 hg2
  go_wp2_with fail
  refine H3.out.mono ?_
  rintro e w3 ⟨x3, y3, s3, rfl, hxy3, hs3, hb3, hg3⟩
  have HG3 := Lib.hid (grown_trans HG2.out hg3)
  have HXY3 := Lib.hid hxy3
  have HS3 := Lib.hid hs3
  have HB3 := Lib.hid hb3
  clear hxy3 hb3 hg3 hs1 hs2 hs3
  go_wp2_with fail
  go_ret
  refine ⟨y3, s3, rfl, ?_, ?_, HB3.out, HG3.out⟩
  · have q1 := HXY.out
    have q2 := HXY2.out
    have q3 := HXY3.out
    omega
  · have q1 := HS1.out
    have q2 := HS2.out
    have q3 := HS3.out
    omega
set_option maxHeartbeats 4000000 in
set_option maxRecDepth 100000 in
theorem medianadj_any (g cap a sb : Nat) (D : List Int) (rest : List Value) (s : Int) (w : World) (hR : RowAt g D rest w) (hs : SwB sb s w) (hne : g ≠ sb) (h0 : 0 ≤ s) (h1 : s ≤ 900) (ha : 1 ≤ a) (hb : a + 1 < D.length) (hn : D.length ≤ 1000000) (hcap : D.length ≤ cap) (hc : cap ≤ 9223372036854775807) :
    Calls Try.prog 131 #[.slice (some ⟨g, 0, none⟩) D.length cap, .int .i64 a, .pointer (some ⟨sb, 0, none⟩)] w (MdP sb (a - 1) a (a + 1) s w) := by
  have HM := Lib.hid (median_any g cap (a - 1) a (a + 1) sb D rest s w hR hs hne h0 h1 (by omega) (by omega) hb hn hcap hc)
  obtain ⟨n, hN⟩ : ∃ n, D.length = n := ⟨_, rfl⟩
  obtain ⟨p, hp⟩ : ∃ p, a - 1 = p := ⟨_, rfl⟩
  obtain ⟨q, hq⟩ : ∃ p, a + 1 = p := ⟨_, rfl⟩
  have e1 : (a : Int) - 1 = (p : Int) := by omega
  have e2 : (a : Int) + 1 = (q : Int) := by omega
  have hq9 : q ≤ 1000000 := by omega
  rw [hN] at HM hb hn ⊢
  rw [hp, hq] at HM ⊢
  clear hR hs hN hcap hc hne hp hq hn
  go_enter Try.func131, Try.ntmps131
  go_wp2_with fail
  refine HM.out.mono ?_
  rintro e w1 ⟨x, s1, rfl, hx, hs1, hb1, hg1⟩
  have HH := Lib.hid (And.intro hx (And.intro hs1 (And.intro hb1 hg1)))
  clear hx hs1 hb1 hg1
  go_wp2_with fail
  go_ret
  exact ⟨x, s1, rfl, HH.out.1, HH.out.2.1, HH.out.2.2.1, HH.out.2.2.2⟩
def CpP (a b : Nat) (w : World) (e : Ending) (w' : World) : Prop := ∃ (p : Nat) (h : Int), e = .returned (.tuple #[.int .i64 p, .int .i64 h]) ∧ a ≤ p ∧ p < b ∧ (h = 0 ∨ h = 1 ∨ h = 2) ∧ Below w.heap.size w w'
end Go.Proofs.Ytlfhcjhbnakamaa.Qs
