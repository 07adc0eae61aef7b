/-
  Words shared by the walks, part six: append of whatever slice (nil too) to a row that is not empty; one cell of a row written over.
-/
import Derived.Test.YtlfhcjhbnakamaaIz2
import Derived.Test.YtlfhcjhbnakamaaIz3
import Derived.Laws.AppendOwnNone
import Derived.Sort.Walk0
import Derived.Test.YtlfhcjhbnakamaaProg
import Derived.DeepKeys4
import Derived.Maps.Views
import Derived.RangeFuncStops
import Derived.RangeFuncNested
import Derived.RangeFuncBound
import Derived.RangeFuncCalls
import Derived.RangeFuncLeaves
import Derived.RangeFuncBox
import Derived.Sort.MapsRangeIn
import Derived.Shelf.Abstract
import Derived.Shelf.RegionOpen
import Derived.WalkKit
import Derived.OwnWalkIn
import Derived.TacticsInMore
import Derived.LoopNIn
import Derived.LoopIn
namespace Go.Gh
open Go.RowKit
set_option linter.unusedVariables false

theorem run_append_any {P : Program} {W : World} {B : Nat} {t ty e : TypeId} {size bytes n m c : Nat} {ao : Option Addr} {v : Value} {xs news : List Value} (el : Elem P t e size bytes) (hown : W.ownsRow B e size v n xs) (hx : Sl W size (.slice ao m c) m news) (h1 : ∀ u ∈ news, u.oneCell' = true)
    (hn : 0 < n) (h47 : (n + m) * bytes ≤ 140737488355328) (h63 : n + m ≤ 9223372036854775807) (hB : B ≤ W.heap.size) :
    ∃ g cap w', (Builtin.append_ #[t, t] ty #[v, .slice ao m c]).run P W = .ok (.slice (some ⟨g, 0, none⟩) (n + m) cap) w' ∧ w'.ownsRow B e size (.slice (some ⟨g, 0, none⟩) (n + m) cap) (n + m) (xs ++ news) ∧ W.grownBy w' v.ownBlock := by
  obtain ⟨i, z, h2, h3, h4, h5, h6⟩ := el.info
  have hl : news.length = m * size := by obtain ⟨_, _, _, _, _, _, h, _⟩ := hx; exact h
  cases ao with
  | none =>
    obtain ⟨rfl, rfl⟩ : m = 0 ∧ c = 0 := by
      obtain ⟨ao', cap, e1, h, _, h', _, _⟩ := hx
      simp at e1
      obtain ⟨rfl, rfl⟩ := e1
      have := h' rfl
      omega
    have hnil : news = [] := List.length_eq_zero_iff.1 (by simpa using hl)
    subst hnil
    obtain ⟨g, cap, rfl, _, _⟩ := hown.form hn
    have hr := run_append_owned_none (P := P) (w := W) B t ty e i size el.und h2 _ n xs hown
    exact ⟨g, cap, W, hr, by rw [List.append_nil]; exact hown, ⟨rfl, rfl, rfl, Nat.le_refl _, fun _ _ _ => rfl⟩⟩
  | some ad =>
    obtain ⟨v', w', hr, h7, h8, _⟩ := run_append_own (P := P) W B t ty e i z size bytes el.und h2 h3 h4 h5 h6 el.pos v n xs hown ad m c news hl (sl_news hx) h1 (by unfold maxLen; exact h63) h47 hB
    obtain ⟨g, cap, rfl, _, _⟩ := h7.form (by omega)
    exact ⟨g, cap, w', hr, h7, h8⟩
theorem wp_append_any {P : Program} {o : Oper} {a : Act} {K : Act → World → Prop} {Q : Exit → Act → World → Prop} {W : World} {B : Nat} {t e : TypeId} {size bytes n m c : Nat} {ao : Option Addr} {v : Value} {xs news : List Value} (el : Elem P t e size bytes) (s x : Operand)
    (ho : o.op = .call { callee := .builtin .append, args := #[s, x], argTypes := #[t, t] }) (hown : W.ownsRow B e size v n xs) (hs : a.eval s = v) (hxv : a.eval x = .slice ao m c) (hx : Sl W size (.slice ao m c) m news) (h1 : ∀ u ∈ news, u.oneCell' = true)
    (hn : 0 < n) (h47 : (n + m) * bytes ≤ 140737488355328) (h63 : n + m ≤ 9223372036854775807) (hB : B ≤ W.heap.size)
    (h : ∀ g cap w', w'.ownsRow B e size (.slice (some ⟨g, 0, none⟩) (n + m) cap) (n + m) (xs ++ news) → W.grownBy w' v.ownBlock → K (a.put o.dst (.slice (some ⟨g, 0, none⟩) (n + m) cap)) w') : o.wp P a W K Q := by
  obtain ⟨g, cap, w', hr, h2, h3⟩ := run_append_any (P := P) (ty := o.type) el hown hx h1 hn h47 h63 hB
  unfold Oper.wp execOp
  simp only [ho, resolve, invoke, builtin, Sem.run_bind, Sem.run_pure, Result.andThen_ok, List.map_toArray, List.map_cons, List.map_nil, hs, hxv, hr]
  exact h g cap w' h2 h3
theorem step_append_any {P : Program} {ops : Array Oper} {o : Oper} {a : Act} {K : Act → World → Prop} {Q : Exit → Act → World → Prop} {E : Prop} {W : World} {B : Nat} {t e : TypeId} {size bytes n m c : Nat} {ao : Option Addr} {v : Value} {xs news : List Value} (el : Elem P t e size bytes) (hgd : o.guard = none) (s x : Operand)
    (ho : o.op = .call { callee := .builtin .append, args := #[s, x], argTypes := #[t, t] }) (hown : W.ownsRow B e size v n xs) (hs : a.eval s = v) (hxv : a.eval x = .slice ao m c) (hx : Sl W size (.slice ao m c) m news) (h1 : ∀ u ∈ news, u.oneCell' = true)
    (hn : 0 < n) (h47 : (n + m) * bytes ≤ 140737488355328) (h63 : n + m ≤ 9223372036854775807) (hB : B ≤ W.heap.size)
    (h : ∀ g cap w', w'.ownsRow B e size (.slice (some ⟨g, 0, none⟩) (n + m) cap) (n + m) (xs ++ news) → W.grownBy w' v.ownBlock → K (a.put o.dst (.slice (some ⟨g, 0, none⟩) (n + m) cap)) w') :
    if Region.wanted o (yielded ops a.tmps) = true then Oper.wp P o a W K Q else E := by
  have hw : Region.wanted o (yielded ops a.tmps) = true := by simp [Region.wanted, hgd]
  rw [if_pos hw]
  exact wp_append_any el s x ho hown hs hxv hx h1 hn h47 h63 hB h
theorem wpList_append_any {P : Program} {ops : Array Oper} {rest : List Oper} {o : Oper} {a : Act} {Q : Exit → Act → World → Prop} {W : World} {B : Nat} {t e : TypeId} {size bytes n m c : Nat} {ao : Option Addr} {v : Value} {xs news : List Value} (el : Elem P t e size bytes) (hgd : o.guard = none) (s x : Operand)
    (ho : o.op = .call { callee := .builtin .append, args := #[s, x], argTypes := #[t, t] }) (hown : W.ownsRow B e size v n xs) (hs : a.eval s = v) (hxv : a.eval x = .slice ao m c) (hx : Sl W size (.slice ao m c) m news) (h1 : ∀ u ∈ news, u.oneCell' = true)
    (hn : 0 < n) (h47 : (n + m) * bytes ≤ 140737488355328) (h63 : n + m ≤ 9223372036854775807) (hB : B ≤ W.heap.size)
    (h : ∀ g cap w', w'.ownsRow B e size (.slice (some ⟨g, 0, none⟩) (n + m) cap) (n + m) (xs ++ news) → W.grownBy w' v.ownBlock → wpList P ops Q rest (a.put o.dst (.slice (some ⟨g, 0, none⟩) (n + m) cap)) w') : wpList P ops Q (o :: rest) a W :=
  wpList_plain hgd fun _ hK => wp_append_any el s x ho hown hs hxv hx h1 hn h47 h63 hB fun g cap w' h2 h3 => hK _ _ (h g cap w' h2 h3)
/-- A copy of a slice, made by append to nil. -/
theorem wpList_append_copy {P : Program} {ops : Array Oper} {rest : List Oper} {o : Oper} {a : Act} {Q : Exit → Act → World → Prop} {W w0 : World} {B : Nat} {t e : TypeId} {size bytes m c : Nat} {ao : Option Addr} {news : List Value} (el : Elem P t e size bytes) (hgd : o.guard = none) (s x : Operand)
    (ho : o.op = .call { callee := .builtin .append, args := #[s, x], argTypes := #[t, t] }) (hs : a.eval s = .slice none 0 0) (hxv : a.eval x = .slice ao m c) (hx : Sl W size (.slice ao m c) m news) (h1 : ∀ u ∈ news, u.oneCell' = true)
    (h47 : m * bytes ≤ 140737488355328) (h63 : m ≤ 9223372036854775807) (hbel : Below B w0 W) (hB : B ≤ W.heap.size)
    (h : ∀ v' w', w'.ownsRow B e size v' m news → Below B w0 w' → wpList P ops Q rest (a.put o.dst v') w') : wpList P ops Q (o :: rest) a W := by
  obtain ⟨i, z, h2, h3, h4, h5, h6⟩ := el.info
  have hl : news.length = m * size := by obtain ⟨_, _, _, _, _, _, h, _⟩ := hx; exact h
  cases ao with
  | none =>
    obtain ⟨rfl, rfl⟩ : m = 0 ∧ c = 0 := by
      obtain ⟨ao', cap, e1, h, _, h', _, _⟩ := hx
      simp at e1
      obtain ⟨rfl, rfl⟩ := e1
      have := h' rfl
      omega
    have hnil : news = [] := List.length_eq_zero_iff.1 (by simpa using hl)
    subst hnil
    exact wpList_append_own_none hgd s x t ho B e i size el.und h2 _ 0 [] hs (World.ownsRow_nil _ _ _ _) hxv (h _ _ (World.ownsRow_nil _ _ _ _) hbel)
  | some ad =>
    refine appendS el hgd s x ho (World.ownsRow_nil W B e size) hbel hB hs hxv hx h1 (by rw [Nat.zero_add]; exact h47) (by omega) ?_
    intro v' w' h7 h8 _
    rw [Nat.zero_add, List.nil_append] at h7
    exact h v' w' h7 h8
theorem rowCells_set {k : Nat} {l : List (List Int)} (h : RowsK k l) {i j : Nat} (hi : i < l.length) (hj : j < k) (z : Int) : (rowCells l).set (i * k + j) (.int .i64 z) = rowCells (l.set i ((l.getD i []).set j z)) := by
  have hg : l.getD i [] = l[i] := by rw [List.getD_eq_getElem?_getD, List.getElem?_eq_getElem hi]; rfl
  rw [hg]
  have e1 : l = l.take i ++ [l[i]] ++ l.drop (i + 1) := by
    rw [List.append_assoc, List.singleton_append, ← List.drop_eq_getElem_cons hi, List.take_append_drop]
  have e2 : l.set i (l[i].set j z) = l.take i ++ [l[i].set j z] ++ l.drop (i + 1) := by
    rw [List.set_eq_take_append_cons_drop, if_pos hi, List.append_assoc, List.singleton_append]
  have hri := h l[i] (List.getElem_mem _)
  have hl : (rowCells (l.take i)).length = i * k := by
    rw [rowCells_len k _ (fun r hr => h r (List.mem_of_mem_take hr)), List.length_take, Nat.min_eq_left (by omega)]
  rw [e2]
  conv => lhs; rw [e1]
  rw [rowCells_append, rowCells_append, rowCells_append, rowCells_append, rowCells_one, rowCells_one, List.append_assoc, List.set_append_right _ _ (by omega), hl, Nat.add_sub_cancel_left, List.set_append_left _ _ (by rw [List.length_map, hri]; exact hj), List.map_set, List.append_assoc]
/-- Parts of a row that is the call's own: what lies ahead of a place, with no room behind; what lies from the place on. -/
theorem own_parts {W : World} {B : Nat} {e : TypeId} {size n g cap i : Nat} {xs : List Value} (h : W.ownsRow B e size (.slice (some ⟨g, 0, none⟩) n cap) n xs) (hi : i ≤ n) :
    Sl W size (.slice (some ⟨g, 0, none⟩) i i) i (xs.take (i * size)) ∧ Sl W size (.slice (if cap = i then some ⟨g, 0, none⟩ else some ⟨g, i * size, none⟩) (n - i) (cap - i)) (n - i) (xs.drop (i * size)) := by
  have hsl := own_sl h
  obtain ⟨ao, c, e1, h2, h3, h4, h5, h6⟩ := hsl
  have hsl := own_sl h
  constructor
  · refine ⟨_, _, rfl, Nat.le_refl _, by simp at e1; omega, by simp, ?_, fun hp => ?_⟩
    · rw [List.length_take, h5, Nat.min_eq_left (Nat.mul_le_mul_right _ hi)]
    · obtain ⟨b, off, e2, hc⟩ := h6 (by omega)
      simp at e1
      rw [e2] at e1
      simp at e1
      obtain ⟨⟨rfl, rfl⟩, _⟩ := e1
      refine ⟨g, 0, rfl, fun j u hu => hc j u ?_⟩
      have hj : j < i * size := by
        rcases Nat.lt_or_ge j (i * size) with h | h
        · exact h
        · rw [List.getElem?_take, if_neg (by omega)] at hu; simp at hu
      rwa [List.getElem?_take, if_pos hj] at hu
  · have := sl_sliced hsl hi (Nat.le_refl _)
    rw [List.take_of_length_le (by rw [List.length_drop, h5, Nat.sub_mul]; omega)] at this
    unfold sliced at this
    simpa [addr_add] using this
/-- append of a slice to a literal of one element. -/
theorem wp_append_lit {P : Program} {o : Oper} {a : Act} {K : Act → World → Prop} {Q : Exit → Act → World → Prop} {W0 : World} {t e : TypeId} {size bytes m c : Nat} {ao : Option Addr} {news : List Value} (cells : List Value) (el : Elem P t e size bytes) (s x : Operand)
    (ho : o.op = .call { callee := .builtin .append, args := #[s, x], argTypes := #[t, t] }) (hs : a.eval s = .slice (some ⟨W0.heap.size, 0, none⟩) 1 1) (hxv : a.eval x = .slice ao m c) (hx : Sl W0 size (.slice ao m c) m news) (hl : cells.length = size) (h1 : ∀ u ∈ news, u.oneCell' = true)
    (h47 : (1 + m) * bytes ≤ 140737488355328) (h63 : 1 + m ≤ 9223372036854775807)
    (h : ∀ g cap w', w'.ownsRow W0.heap.size e size (.slice (some ⟨g, 0, none⟩) (1 + m) cap) (1 + m) (cells ++ news) → Below W0.heap.size W0 w' → K (a.put o.dst (.slice (some ⟨g, 0, none⟩) (1 + m) cap)) w') : o.wp P a (W0.alloc (.cells cells.toArray e)) K Q := by
  have hown : (W0.alloc (.cells cells.toArray e)).ownsRow W0.heap.size e size (.slice (some ⟨W0.heap.size, 0, none⟩) 1 1) 1 cells := own_build W0 cells (Nat.le_refl _) (by rw [Nat.one_mul]; exact hl) (by decide)
  refine wp_append_any el s x ho hown hs hxv (hx.alloc _) h1 (by decide) h47 h63 (by simp) ?_
  intro g cap w' h2 h3
  exact h g cap w' h2 (below_own hown ((Below.refl _ W0).alloc (Nat.le_refl _) _) (Nat.le_refl _) (by simp) h3)
theorem step_append_lit {P : Program} {ops : Array Oper} {o : Oper} {a : Act} {K : Act → World → Prop} {Q : Exit → Act → World → Prop} {E : Prop} {W0 : World} {t e : TypeId} {size bytes m c : Nat} {ao : Option Addr} {news : List Value} (cells : List Value) (el : Elem P t e size bytes) (hgd : o.guard = none) (s x : Operand)
    (ho : o.op = .call { callee := .builtin .append, args := #[s, x], argTypes := #[t, t] }) (hs : a.eval s = .slice (some ⟨W0.heap.size, 0, none⟩) 1 1) (hxv : a.eval x = .slice ao m c) (hx : Sl W0 size (.slice ao m c) m news) (hl : cells.length = size) (h1 : ∀ u ∈ news, u.oneCell' = true)
    (h47 : (1 + m) * bytes ≤ 140737488355328) (h63 : 1 + m ≤ 9223372036854775807)
    (h : ∀ g cap w', w'.ownsRow W0.heap.size e size (.slice (some ⟨g, 0, none⟩) (1 + m) cap) (1 + m) (cells ++ news) → Below W0.heap.size W0 w' → K (a.put o.dst (.slice (some ⟨g, 0, none⟩) (1 + m) cap)) w') :
    if Region.wanted o (yielded ops a.tmps) = true then Oper.wp P o a (W0.alloc (.cells cells.toArray e)) K Q else E := by
  have hw : Region.wanted o (yielded ops a.tmps) = true := by simp [Region.wanted, hgd]
  rw [if_pos hw]
  exact wp_append_lit cells el s x ho hs hxv hx hl h1 h47 h63 h
/-- A row is put in at a place of a row that is the call's own. -/
theorem own_ins {w' : World} {B : Nat} {e : TypeId} {k p j g cap : Nat} {acc : List (List Int)} {r : List Int} (h : w'.ownsRow B e k (.slice (some ⟨g, 0, none⟩) (j + (1 + (p - j))) cap) (j + (1 + (p - j))) ((rowCells acc).take (j * k) ++ (r.map (Value.int .i64) ++ (rowCells acc).drop (j * k)))) (hk : RowsK k acc) (hp : acc.length = p) (hj : j ≤ p) :
    w'.ownsRow B e k (.slice (some ⟨g, 0, none⟩) (p + 1) cap) (p + 1) (rowCells (acc.take j ++ r :: acc.drop j)) := by
  rw [rowCells_ins, ← rowCells_take hk j, ← rowCells_drop hk j (by omega)]
  rw [show j + (1 + (p - j)) = p + 1 by omega] at h
  exact h
theorem own_ins_end {w' : World} {B : Nat} {e : TypeId} {k j g cap : Nat} {acc : List (List Int)} {r : List Int} (h : w'.ownsRow B e k (.slice (some ⟨g, 0, none⟩) (j + 1) cap) (j + 1) ((rowCells acc).take (j * k) ++ (r.map (Value.int .i64) ++ (rowCells acc).drop (j * k)))) (hk : RowsK k acc) (hp : acc.length = j) :
    w'.ownsRow B e k (.slice (some ⟨g, 0, none⟩) (j + 1) cap) (j + 1) (rowCells (acc.take j ++ r :: acc.drop j)) := by
  rw [rowCells_ins, ← rowCells_take hk j, ← rowCells_drop hk j (by omega)]
  exact h
theorem sl_nil (w : World) (size : Nat) : Sl w size (.slice none 0 0) 0 [] := ⟨none, 0, rfl, Nat.le_refl _, Nat.zero_le _, fun _ => rfl, by simp, fun h => absurd h (Nat.lt_irrefl _)⟩
/-- The whole of an owned row, as what lies ahead of its end; what lies behind is nothing. -/
theorem own_end {W : World} {B : Nat} {e : TypeId} {size n c : Nat} {ao : Option Addr} {xs : List Value} (h : W.ownsRow B e size (.slice ao n c) n xs) :
    (ao = none ∧ n = 0 ∧ c = 0 ∧ Sl W size (.slice none 0 0) 0 (xs.take (n * size)) ∧ Sl W size (.slice none 0 0) 0 (xs.drop (n * size))) ∨
    ∃ g, ao = some ⟨g, 0, none⟩ ∧ Sl W size (.slice (some ⟨g, 0, none⟩) n n) n (xs.take (n * size)) ∧ ((c = n ∧ Sl W size (.slice (some ⟨g, 0, none⟩) 0 0) 0 (xs.drop (n * size))) ∨ (¬ c = n ∧ Sl W size (.slice (some ⟨g, n * size, none⟩) 0 (c - n)) 0 (xs.drop (n * size)))) := by
  have hl := h.1
  rcases h.2 with ⟨e1, hn⟩ | ⟨g, cap, cur, e1, _⟩
  · left
    simp at e1
    obtain ⟨rfl, rfl, rfl⟩ := e1
    have : xs = [] := List.length_eq_zero_iff.1 (by simpa using hl)
    subst this
    exact ⟨rfl, rfl, rfl, by simpa using sl_nil W size, by simpa using sl_nil W size⟩
  · right
    simp at e1
    obtain ⟨rfl, rfl⟩ := e1
    obtain ⟨p1, p2⟩ := own_parts h (Nat.le_refl _)
    rw [Nat.sub_self] at p2
    refine ⟨g, rfl, p1, ?_⟩
    by_cases hc : c = n
    · left
      rw [if_pos hc] at p2
      subst hc
      rw [Nat.sub_self] at p2
      exact ⟨rfl, p2⟩
    · right
      rw [if_neg hc] at p2
      exact ⟨hc, p2⟩
end Go.Gh
/-
  Slices of whatever elements: how they read; rows of the call's own; arguments opened.
-/
namespace Go.Gh
open Go.RowKit Go.ChangeShapes Go.WideShapes Go.ChangeAt Go.Deep
set_option linter.unusedVariables false
section
variable {α : Type}
/-- The cells of elements, each with its cells. -/
def pc (P : List (α × List Value)) : List Value := P.flatMap (·.2)
def PK (k : Nat) (P : List (α × List Value)) : Prop := ∀ p ∈ P, p.2.length = k
theorem pc_nil : pc ([] : List (α × List Value)) = [] := rfl
theorem pc_cons (p : α × List Value) (P : List (α × List Value)) : pc (p :: P) = p.2 ++ pc P := rfl
theorem pc_append (P Q : List (α × List Value)) : pc (P ++ Q) = pc P ++ pc Q := List.flatMap_append
theorem pc_snoc (P : List (α × List Value)) (a : α) (c : List Value) : pc P ++ c = pc (P ++ [(a, c)]) := by
  rw [pc_append, pc_cons, pc_nil, List.append_nil]
variable {k : Nat} {P : List (α × List Value)}
theorem PK.nil : PK k ([] : List (α × List Value)) := fun p hp => by simp at hp
theorem PK.snoc (h : PK k P) {a : α} {c : List Value} (hc : c.length = k) : PK k (P ++ [(a, c)]) := by
  intro p hp
  rcases List.mem_append.1 hp with h' | h'
  · exact h p h'
  · have : p = (a, c) := by simpa using h'
    rw [this]; exact hc
theorem PK.drop (h : PK k P) (i : Nat) : PK k (P.drop i) := fun p hp => h p (List.mem_of_mem_drop hp)
theorem PK.take (h : PK k P) (i : Nat) : PK k (P.take i) := fun p hp => h p (List.mem_of_mem_take hp)
theorem pc_len : ∀ {P : List (α × List Value)}, PK k P → (pc P).length = P.length * k
  | [], _ => by simp [pc]
  | p :: P, h => by
    rw [pc_cons, List.length_append, h p (by simp), pc_len (P := P) (fun q hq => h q (by simp [hq])), List.length_cons, Nat.succ_mul, Nat.add_comm]
theorem pc_get : ∀ {P : List (α × List Value)} {i j : Nat} {p : α × List Value}, PK k P → P[i]? = some p → j < k → (pc P)[i * k + j]? = p.2[j]?
  | [], i, j, p, _, h, _ => by simp at h
  | q :: P, 0, j, p, h, hi, hj => by
    have : q = p := by simpa using hi
    subst this
    rw [pc_cons, Nat.zero_mul, Nat.zero_add, List.getElem?_append_left (by rw [h q (by simp)]; exact hj)]
  | q :: P, i + 1, j, p, h, hi, hj => by
    have hq := h q (by simp)
    rw [pc_cons, Nat.succ_mul, List.getElem?_append_right (by rw [hq]; omega), hq, show i * k + k + j - k = i * k + j from by omega]
    exact pc_get (fun r hr => h r (by simp [hr])) (by simpa using hi) hj
theorem pc_drop (h : PK k P) (i : Nat) (hi : i ≤ P.length) : (pc P).drop (i * k) = pc (P.drop i) := by
  conv => lhs; rw [← List.take_append_drop i P]
  have hl : (pc (P.take i)).length = i * k := by rw [pc_len (h.take i), List.length_take, Nat.min_eq_left hi]
  rw [pc_append, List.drop_append_of_le_length (by omega), List.drop_of_length_le (by omega), List.nil_append]
theorem pc_take (h : PK k P) (i : Nat) : (pc P).take (i * k) = pc (P.take i) := by
  rcases Nat.lt_or_ge i P.length with hi | hi
  · conv => lhs; rw [← List.take_append_drop i P]
    have hl : (pc (P.take i)).length = i * k := by rw [pc_len (h.take i), List.length_take, Nat.min_eq_left (by omega)]
    rw [pc_append, List.take_append_of_le_length (by omega), List.take_of_length_le (by omega)]
  · rw [List.take_of_length_le hi, List.take_of_length_le]
    rw [pc_len h]
    exact Nat.mul_le_mul_right _ hi
/-- An element is written over. -/
theorem pc_set (h : PK k P) {i : Nat} (hi : i < P.length) {a : α} {c : List Value} (hc : c.length = k) : setFrom (pc P) (i * k) c = pc (P.set i (a, c)) := by
  have e1 : P = P.take i ++ [P[i]] ++ P.drop (i + 1) := by
    rw [List.append_assoc, List.singleton_append, ← List.drop_eq_getElem_cons hi, List.take_append_drop]
  have e2 : P.set i (a, c) = P.take i ++ [(a, c)] ++ P.drop (i + 1) := by
    rw [List.set_eq_take_append_cons_drop, if_pos hi, List.append_assoc, List.singleton_append]
  have hl : (pc (P.take i)).length = i * k := by rw [pc_len (h.take i), List.length_take, Nat.min_eq_left (by omega)]
  rw [e2]
  conv => lhs; rw [e1]
  rw [pc_append, pc_append, pc_append, pc_append, ← hl]
  have := setFrom_mid c (pc [P[i]]) (pc (P.take i)) (pc (P.drop (i + 1))) (by rw [pc_cons, pc_nil, List.append_nil, h P[i] (List.getElem_mem _), hc])
  rw [this, pc_cons, pc_nil, List.append_nil]
theorem pair_at {L : List α} {i : Nat} {a : α} (h : P.map (·.1) = L) (hi : L[i]? = some a) : ∃ cs, P[i]? = some (a, cs) := by
  rw [← h, List.getElem?_map] at hi
  obtain ⟨p, h1, h2⟩ := Option.map_eq_some_iff.1 hi
  exact ⟨p.2, by rw [h1]; simp [← h2]⟩
/-- What is known of an element's cells stays known. -/
def Mono (R : World → α → List Value → Prop) : Prop := ∀ (w w' : World) (a : α) (c : List Value), R w a c → Below w.heap.size w w' → R w' a c
variable {R : World → α → List Value → Prop}
/-- The slice value v reads as the list L. -/
def Sp (R : World → α → List Value → Prop) (k : Nat) (w : World) (v : Value) (L : List α) : Prop :=
  ∃ P : List (α × List Value), P.map (·.1) = L ∧ PK k P ∧ (∀ p ∈ P, R w p.1 p.2) ∧ Sl w k v L.length (pc P)
theorem Sp.below {w w' : World} {v : Value} {L : List α} (hR : Mono R) (h : Sp R k w v L) (hb : Below w.heap.size w w') : Sp R k w' v L := by
  obtain ⟨P, h1, h2, h3, h4⟩ := h
  exact ⟨P, h1, h2, fun p hp => hR _ _ _ _ (h3 p hp) hb, h4.below hb⟩
theorem Sp.nil {w : World} : Sp R k w (.slice none 0 0) ([] : List α) := ⟨[], rfl, PK.nil, fun p hp => by simp at hp, none, 0, rfl, Nat.le_refl _, Nat.zero_le _, fun _ => rfl, by simp [pc], fun h => absurd h (Nat.lt_irrefl _)⟩
theorem Sp.shape {w : World} {v : Value} {L : List α} (h : Sp R k w v L) : ∃ ao c, v = .slice ao L.length c ∧ L.length ≤ c ∧ c ≤ 9223372036854775807 := by
  obtain ⟨P, h1, h2, h3, h4⟩ := h
  obtain ⟨ao, c, e, h5, h6, _⟩ := h4.shape
  exact ⟨ao, c, e, h5, h6⟩
theorem Sp.get {w : World} {ao : Option Addr} {n c i : Nat} {L : List α} {a : α} (h : Sp R k w (.slice ao n c) L) (hi : L[i]? = some a) :
    ∃ b off cs, ao = some ⟨b, off, none⟩ ∧ R w a cs ∧ cs.length = k ∧ ∀ j u, cs[j]? = some u → w.cell? ⟨b, off + i * k + j, none⟩ = some u := by
  obtain ⟨P, h1, h2, h3, ao', cap, e, h4, h5, h6, h7, h8⟩ := h
  simp at e
  obtain ⟨rfl, rfl, rfl⟩ := e
  have hlt : i < L.length := (List.getElem?_eq_some_iff.1 hi).1
  obtain ⟨b, off, rfl, hc⟩ := h8 (by omega)
  obtain ⟨cs, hp⟩ := pair_at h1 hi
  have hm : (a, cs) ∈ P := List.mem_of_getElem? hp
  refine ⟨b, off, cs, rfl, h3 _ hm, h2 _ hm, fun j u hu => ?_⟩
  have hj : j < k := by
    have h9 := (List.getElem?_eq_some_iff.1 hu).1
    have h10 : cs.length = k := h2 _ hm
    omega
  rw [Nat.add_assoc]
  exact hc _ u (by rw [pc_get h2 hp hj]; exact hu)
theorem take_pairs {L : List α} {i : Nat} (h : P.map (·.1) = L) : (P.take i).map (·.1) = L.take i := by rw [List.map_take, h]
theorem drop_pairs {L : List α} {i : Nat} (h : P.map (·.1) = L) : (P.drop i).map (·.1) = L.drop i := by rw [List.map_drop, h]
/-- x[lo:hi]. -/
theorem Sp.cut {w : World} {ao : Option Addr} {n c lo hi : Nat} {L : List α} (h : Sp R k w (.slice ao n c) L) (h1 : lo ≤ hi) (h2 : hi ≤ n) : Sp R k w (sliced ao lo hi c k) ((L.drop lo).take (hi - lo)) := by
  obtain ⟨P, e1, e2, e3, e4⟩ := h
  have hn : n = L.length := by
    obtain ⟨_, _, e, _⟩ := e4
    simp at e
    exact e.2.1
  subst hn
  have hlen : ((L.drop lo).take (hi - lo)).length = hi - lo := by rw [List.length_take, List.length_drop]; omega
  have hPl : P.length = L.length := by rw [← e1, List.length_map]
  refine ⟨(P.drop lo).take (hi - lo), by rw [List.map_take, List.map_drop, e1], (e2.drop lo).take _, fun p hp => e3 p (List.mem_of_mem_drop (List.mem_of_mem_take hp)), ?_⟩
  have := sl_sliced e4 h1 h2
  rw [pc_drop e2 lo (by omega), pc_take (e2.drop lo)] at this
  rw [hlen]
  exact this
/-- x[1:], spelled out. -/
theorem Sp.tail {w : World} {b off q c : Nat} {x : α} {L : List α} (h : Sp R k w (.slice (some ⟨b, off, none⟩) (q + 1) c) (x :: L)) :
    (c = 1 → Sp R k w (.slice (some ⟨b, off, none⟩) q 0) L) ∧ (¬ c = 1 → Sp R k w (.slice (some ⟨b, off + k, none⟩) q (c - 1)) L) := by
  have hq : q = L.length := by
    obtain ⟨_, _, e, _⟩ := h.shape
    simp at e
    exact e.2.1
  have := h.cut (show 1 ≤ q + 1 by omega) (Nat.le_refl _)
  rw [List.drop_succ_cons, List.drop_zero, List.take_of_length_le (by omega)] at this
  unfold sliced at this
  constructor
  · intro hc
    subst hc
    simpa using this
  · intro hc
    rw [if_neg hc] at this
    simpa [addr_add] using this
/-- A row of the call's own that holds the list L. -/
def Ow (R : World → α → List Value → Prop) (k : Nat) (T : TypeId) (B : Nat) (w : World) (v : Value) (L : List α) : Prop :=
  ∃ P : List (α × List Value), P.map (·.1) = L ∧ PK k P ∧ (∀ p ∈ P, R w p.1 p.2) ∧ w.ownsRow B T k v L.length (pc P)
theorem Ow.sp {T : TypeId} {B : Nat} {w : World} {v : Value} {L : List α} (h : Ow R k T B w v L) : Sp R k w v L := by
  obtain ⟨P, h1, h2, h3, h4⟩ := h
  exact ⟨P, h1, h2, h3, own_sl h4⟩
theorem Ow.below {T : TypeId} {B : Nat} {w w' : World} {v : Value} {L : List α} (hR : Mono R) (h : Ow R k T B w v L) (hb : Below w.heap.size w w') : Ow R k T B w' v L := by
  obtain ⟨P, h1, h2, h3, h4⟩ := h
  exact ⟨P, h1, h2, fun p hp => hR _ _ _ _ (h3 p hp) hb, own_below h4 hb⟩
theorem Ow.mono {T : TypeId} {B B' : Nat} {w : World} {v : Value} {L : List α} (h : Ow R k T B w v L) (hb : B' ≤ B) : Ow R k T B' w v L := by
  obtain ⟨P, h1, h2, h3, h4⟩ := h
  exact ⟨P, h1, h2, h3, own_mono h4 hb⟩
theorem Ow.nil {T : TypeId} {B : Nat} {w : World} : Ow R k T B w (.slice none 0 0) ([] : List α) := ⟨[], rfl, PK.nil, fun p hp => by simp at hp, World.ownsRow_nil _ _ _ _⟩
theorem Ow.shape {T : TypeId} {B : Nat} {w : World} {v : Value} {L : List α} (h : Ow R k T B w v L) : ∃ ao c, v = .slice ao L.length c ∧ L.length ≤ c ∧ c ≤ 9223372036854775807 := h.sp.shape
/-- What is known of an element's cells stays known where a row of type T grows. -/
def Grow (R : World → α → List Value → Prop) (T : TypeId) (k B : Nat) : Prop := ∀ (w w' : World) (a : α) (c : List Value) (u : Value) (m : Nat) (us : List Value), R w a c → w.ownsRow B T k u m us → w.grownBy w' u.ownBlock → R w' a c
/-- One element more, behind an append to the row. -/
theorem Ow.snoc {T : TypeId} {B n : Nat} {w w' : World} {v v' : Value} {L : List α} {a : α} {c : List Value} {P : List (α × List Value)} (hG : Grow R T k B) (h1 : P.map (·.1) = L) (h2 : PK k P) (h3 : ∀ p ∈ P, R w p.1 p.2) (h4 : w.ownsRow B T k v n (pc P)) (hn : n = L.length) (hg : w.grownBy w' v.ownBlock) (hown : w'.ownsRow B T k v' (n + 1) (pc P ++ c)) (hc : c.length = k) (ha : R w a c) : Ow R k T B w' v' (L ++ [a]) := by
  refine ⟨P ++ [(a, c)], by rw [List.map_append, h1]; rfl, h2.snoc hc, ?_, ?_⟩
  · intro p hp
    rcases List.mem_append.1 hp with h' | h'
    · exact hG _ _ _ _ _ _ _ (h3 p h') h4 hg
    · have : p = (a, c) := by simpa using h'
      rw [this]
      exact hG _ _ _ _ _ _ _ ha h4 hg
  · rw [← pc_snoc, List.length_append, ← hn]
    exact hown
end
section
variable {α : Type} {H : Type} {enc : TypeId × Value → H} {P : Program} {W : World} {base : Nat} {spare : Nat → Bool} {held : Bool} {R : World → α → List Value → Prop}
/-- A slice that came in, element by element. -/
theorem sp_of {t e : TypeId} {k fuel : Nat} {v : Value} {x : DataW H × List MemPlace} (inh : Inhabited α) (ht : P.underlying t = some (.slice e)) (hk : P.cellsOf e = k) (hpos : 0 < k)
    (hel : ∀ fuel cs x, DataW.trod enc P W base spare held fuel e cs = some x → cs.length = k → ∃ a, R W a cs)
    (h : DataW.trod enc P W base spare held fuel t [v] = some x) : ∃ L : List α, Sp R k W v L ∧ L.length ≤ 9223372036854775807 ∧ ((∀ n ∈ x.1.weights P t, n ≤ reachBytes) → L.length * P.bytesOf e ≤ reachBytes) := by
  rcases open_slice ht h with ⟨hcs, _⟩ | ⟨a, len, cap, m, n, D, Pl, hcs, hb, hl, hm, hmm, hx, hi'⟩
  · obtain rfl : v = .slice none 0 0 := by simpa using hcs
    exact ⟨[], Sp.nil, by simp, fun _ => by simp⟩
  · obtain rfl : v = .slice (some a) len cap := by simpa using hcs
    have hlm : len ≤ m := by rw [hmm]; split <;> omega
    have each : ∀ i, i < len → ∃ p : α × List Value, p.2.length = k ∧ R W p.1 p.2 ∧ ∀ j u, p.2[j]? = some u → W.cell? (a.add (i * k + j)) = some u := by
      intro i hlt
      obtain ⟨cs', hc, ht'⟩ := hi' i (by omega)
      rw [hk] at hc
      obtain ⟨_, hcl, hat⟩ := World.cells?_some hc
      obtain ⟨y, hy⟩ := hel _ _ _ ht' hcl
      refine ⟨(y, cs'), hcl, hy, fun j u hu => ?_⟩
      have hj : j < k := by
        have h9 : j < cs'.length := (List.getElem?_eq_some_iff.1 hu).1
        have h10 : cs'.length = k := hcl
        omega
      have h2 := hat j hj
      rw [add_add] at h2
      rw [h2]
      exact hu
    haveI : Inhabited (α × List Value) := ⟨(inh.default, [])⟩
    obtain ⟨Q, hQ⟩ := choose_lt each
    have hL : ((List.range len).map Q).length = len := by simp
    have hPK : PK k ((List.range len).map Q) := by
      intro p hp
      obtain ⟨i, hi, rfl⟩ := List.mem_map.1 hp
      exact (hQ i (by simpa using hi)).1
    refine ⟨((List.range len).map Q).map (·.1), ⟨(List.range len).map Q, rfl, hPK, ?_, some a, cap, ?_, ?_, hm, fun h => by simp at h, ?_, fun hn => ?_⟩, ?_, ?_⟩
    · intro p hp
      obtain ⟨i, hi, rfl⟩ := List.mem_map.1 hp
      exact (hQ i (by simpa using hi)).2.1
    · rw [List.length_map, hL]
    · rw [List.length_map, hL]; exact hl
    · rw [pc_len hPK, List.length_map, List.length_map, List.length_map]
    · rw [List.length_map, hL] at hn
      obtain ⟨u0, hu0⟩ : ∃ u, (Q 0).2[0]? = some u := ⟨_, List.getElem?_eq_getElem (by rw [(hQ 0 hn).1]; exact hpos)⟩
      have h0 := (hQ 0 hn).2.2 0 u0 hu0
      obtain ⟨b, off, spot⟩ := a
      have hs := World.cell?_spot h0
      simp [Addr.add] at hs
      subst hs
      refine ⟨b, off, rfl, fun i u hu => ?_⟩
      have hidx : i < len * k := by
        rcases Nat.lt_or_ge i (len * k) with h' | h'
        · exact h'
        · rw [List.getElem?_eq_none (by rw [pc_len hPK, hL]; exact h')] at hu; simp at hu
      have hq : i / k < len := Nat.div_lt_of_lt_mul (by rw [Nat.mul_comm]; exact hidx)
      have hr : i % k < k := Nat.mod_lt _ hpos
      have hdm : i / k * k + i % k = i := by rw [Nat.mul_comm]; exact Nat.div_add_mod i k
      have hp : ((List.range len).map Q)[i / k]? = some (Q (i / k)) := by simp [hq]
      rw [← hdm, pc_get hPK hp hr] at hu
      have := (hQ (i / k) hq).2.2 (i % k) u hu
      rw [addr_add, hdm] at this
      exact this
    · rw [List.length_map, hL]; unfold maxLen at hm; omega
    · intro hs
      rw [List.length_map, hL]
      have := hs ((((List.range len).map D).length + ((List.range (m - len)).map fun j => D (len + j)).length) * P.bytesOf e) (by rw [hx]; simp [DataW.weights, ht])
      refine Nat.le_trans (Nat.mul_le_mul_right _ ?_) this
      simp
end
theorem Sp.shapeN {α : Type} {R : World → α → List Value → Prop} {k n : Nat} {w : World} {v : Value} {L : List α} (h : Sp R k w v L) (hl : L.length = n) : ∃ ao c, v = .slice ao n c ∧ n ≤ c ∧ c ≤ 9223372036854775807 := by
  subst hl
  exact h.shape
theorem Sp.headN {α : Type} {R : World → α → List Value → Prop} {k n c : Nat} {ao : Option Addr} {w : World} {x : α} {L : List α} (h : Sp R k w (.slice ao n c) (x :: L)) :
    ∃ b off cs, ao = some ⟨b, off, none⟩ ∧ R w x cs ∧ cs.length = k ∧ ∀ j u, cs[j]? = some u → w.cell? ⟨b, off + j, none⟩ = some u := by
  obtain ⟨b, off, cs, h1, h2, h3, h4⟩ := h.get (i := 0) (a := x) rfl
  refine ⟨b, off, cs, h1, h2, h3, fun j u hu => ?_⟩
  have := h4 j u hu
  rwa [Nat.zero_mul, Nat.add_zero] at this
theorem Sp.weaken {α : Type} {R R' : World → α → List Value → Prop} {k : Nat} {w : World} {v : Value} {L : List α} (h : Sp R k w v L) (hw : ∀ a c, R w a c → R' w a c) : Sp R' k w v L := by
  obtain ⟨P, h1, h2, h3, h4⟩ := h
  exact ⟨P, h1, h2, fun p hp => hw _ _ (h3 p hp), h4⟩
theorem cons_of' {α : Type} {l : List α} {n : Nat} (h : l.length = n + 1) : ∃ x r, l = x :: r ∧ r.length = n := by
  cases l with
  | nil => simp at h
  | cons x r => exact ⟨x, r, rfl, by simpa using h⟩
/-- A slice's block is old, or bears another type than T. -/
def Apart (w : World) (B : Nat) (T : TypeId) (v : Value) : Prop := ∀ b, v.ownBlock = some b → (b < B ∧ b < w.heap.size) ∨ ∃ cs e fr, w.heap[b]? = some (.cells cs e fr) ∧ e ≠ T
theorem Apart.below {w w' : World} {B : Nat} {T : TypeId} {v : Value} (h : Apart w B T v) (hb : Below w.heap.size w w') : Apart w' B T v := by
  intro b hv
  rcases h b hv with h | ⟨cs, e, fr, h, hne⟩
  · exact Or.inl ⟨h.1, Nat.lt_of_lt_of_le h.2 hb.size⟩
  · exact Or.inr ⟨cs, e, fr, (hb.block b (Array.getElem?_eq_some_iff.1 h).1).trans h, hne⟩
theorem Apart.ne {w : World} {B k m : Nat} {T : TypeId} {u v : Value} {us : List Value} {b : Nat} (h : Apart w B T v) (ho : w.ownsRow B T k u m us) (hv : v.ownBlock = some b) : u.ownBlock ≠ some b := by
  intro hu
  rcases h b hv with h | ⟨cs, e, fr, h, hne⟩
  · have := (ho.lt b hu).1
    omega
  · exact own_block_ne ho h (fun e' => hne e'.symm) hu
theorem Apart.grown {w w' : World} {B k m : Nat} {T : TypeId} {u v : Value} {us : List Value} (h : Apart w B T v) (ho : w.ownsRow B T k u m us) (hg : w.grownBy w' u.ownBlock) : Apart w' B T v := by
  intro b hv
  have hne := h.ne ho hv
  rcases h b hv with h | ⟨cs, e, fr, h, hne'⟩
  · exact Or.inl ⟨h.1, Nat.lt_of_lt_of_le h.2 hg.size⟩
  · exact Or.inr ⟨cs, e, fr, (hg.block b (Array.getElem?_eq_some_iff.1 h).1 (fun e' => hne e'.symm)).trans h, hne'⟩
/-- A slice that is apart from a row that grows reads as before. -/
theorem Sl.grownA {w w' : World} {size n B k m : Nat} {T : TypeId} {v u : Value} {xs us : List Value} (h : Sl w size v n xs) (ha : Apart w B T v) (ho : w.ownsRow B T k u m us) (hg : w.grownBy w' u.ownBlock) : Sl w' size v n xs := by
  obtain ⟨ao, cap, rfl, h2, h3, h4, h5, h6⟩ := h
  refine ⟨ao, cap, rfl, h2, h3, h4, h5, fun hn => ?_⟩
  obtain ⟨b', off, rfl, hc⟩ := h6 hn
  refine ⟨b', off, rfl, fun i u hu => ?_⟩
  exact hg.cell (hc i u hu) (fun e => ha.ne ho (b := b') rfl e.symm)
theorem Apart.own {w : World} {B B' size n : Nat} {T e : TypeId} {v : Value} {xs : List Value} (h : w.ownsRow B' e size v n xs) (hne : e ≠ T) : Apart w B T v := by
  intro b hv
  rcases h.2 with ⟨rfl, _⟩ | ⟨g, cap, cur, rfl, _, hg, _⟩
  · simp [Value.ownBlock] at hv
  · have : g = b := by simpa [Value.ownBlock] using hv
    subst this
    exact Or.inr ⟨_, _, _, hg, hne⟩
end Go.Gh
/-
  Labels and matches in memory.
-/
namespace Go.Gh
open Go.RowKit
set_option linter.unusedVariables false
set_option linter.unusedSimpArgs false
def LbR (w : World) (x : Lb) (c : List Value) : Prop := c = [.string (mkS x.nm), .string (mkS x.vl)] ∧ x.nm.length ≤ 140737488355328 ∧ x.vl.length ≤ 140737488355328
def MtR (w : World) (x : Mt) (c : List Value) : Prop := c = [.int .i64 x.kd, .string (mkS x.nm), .string (mkS x.vl)] ∧ x.nm.length ≤ 140737488355328 ∧ x.vl.length ≤ 140737488355328 ∧ -9223372036854775808 ≤ x.kd ∧ x.kd < 9223372036854775808
theorem lbR_mono : Mono LbR := fun w w' a c h hb => h
theorem mtR_mono : Mono MtR := fun w w' a c h hb => h
/-- The last name. -/
def lastN (p : Option By) : By := match p with | none => [] | some q => q
theorem leB (a b : By) : (Op.bytesLess a b || a == b) = !decide (b < a) := by
  rw [Go.Proofs.bytesLess_eq]
  by_cases h1 : a < b
  · have h2 : ¬ b < a := fun h => List.lt_irrefl _ (List.lt_trans h1 h)
    simp [h1, h2]
  · by_cases h3 : a = b
    · subst h3
      simp [List.lt_irrefl]
    · have h2 : b < a := Classical.byContradiction fun h => h3 (List.le_antisymm (List.not_lt.1 h) (List.not_lt.1 h1))
      simp [h1, h2, h3]
theorem bad_le (p : Option By) {x : By} (hx : x ≠ []) : (Op.bytesLess x (lastN p) || x == lastN p) = badO p x := by
  cases p with
  | none =>
    match x, hx with
    | c :: r, _ => rfl
  | some q => exact leB x q
end Go.Gh
/-
  Labels as the keys of a map.
-/
namespace Go.Proofs.Ytlfhcjhbnakamaa.Iy
open Go.RowKit Go.Gh Go.Maps Go.WideShapes
set_option linter.unusedVariables false
set_option linter.unusedSimpArgs false
/-- What a label reads as, as a key. -/
def kl (y : Lb) : Lit := .string (keyBytes [.string y.nm, .string y.vl])
def lbV (y : Lb) : Value := .agg #[.string (mkS y.nm), .string (mkS y.vl)]
def Fits2 (y : Lb) : Prop := y.nm.length ≤ 9223372036854775807 ∧ y.vl.length ≤ 9223372036854775807
theorem keyTy : Try.prog.keyType 67 = true := by kernel_rfl
theorem cellsLb : Try.prog.cellsOf 67 = 2 := by kernel_rfl
theorem cellsSt : Try.prog.cellsOf 9 = 1 := by kernel_rfl
theorem sizeTy : ∃ m, Try.prog.types.size = m + 1 := ⟨Try.prog.types.size - 1, by
  have : 0 < Try.prog.types.size := of_decide_eq_true (by kernel_rfl)
  omega⟩
theorem laidO : laidOutB Try.prog = true := by kernel_rfl
theorem rowLb : (67 : TypeId) < Try.prog.types.size := of_decide_eq_true (by kernel_rfl)
set_option maxRecDepth 100000 in
theorem wideLb : (match Try.prog.underlying 67 with | some (.array _ _) | some (.struct _) => true | _ => false) = true := by kernel_rfl
set_option maxRecDepth 100000 in
theorem lawK : WideMaps.KeyLaw Try.prog 67 := deep_law_laid laidO (m := 2) (by omega) rowLb (by kernel_rfl) wideLb
theorem law : Keyed Try.prog 67 := Keyed.of_law lawK
set_option maxRecDepth 100000 in
theorem keyLb (y : Lb) (h : Fits2 y) : keyOf Try.prog 67 (lbV y) = some (kl y) := by
  obtain ⟨h1, h2⟩ := h
  have hm1 : (mkS y.nm).size ≤ maxLen := by rw [mkS_size]; unfold maxLen; exact h1
  have hm2 : (mkS y.vl).size ≤ maxLen := by rw [mkS_size]; unfold maxLen; exact h2
  obtain ⟨m, hm⟩ := sizeTy
  unfold keyOf lbV
  simp only [Try.underlying67]
  rw [if_pos (by simp [keyTy, Value.formed, Try.underlying67, cellsLb]), hm]
  unfold Program.keyLits
  simp only [Try.underlying67, Value.cells]
  rw [if_pos ⟨by rw [cellsLb]; rfl, by simp⟩]
  simp [cellsSt, Program.keyLits, Try.underlying9, hm1, hm2, kl]
  rfl
set_option maxRecDepth 100000 in
theorem keyLb_inv {v : Value} {l : Lit} (h : keyOf Try.prog 67 v = some l) : ∃ y, v = lbV y ∧ Fits2 y ∧ l = kl y := by
  obtain ⟨m, hm⟩ := sizeTy
  unfold keyOf at h
  simp only [Try.underlying67] at h
  split at h
  · rename_i hc
    have hf : v.formed Try.prog 67 = true := by simp at hc; exact hc.2
    obtain ⟨xs, rfl, hxs⟩ : ∃ xs, v = .agg xs ∧ xs.size = 2 := by
      cases v <;> simp [Value.formed, Try.underlying67, cellsLb] at hf
      exact ⟨_, rfl, hf⟩
    obtain ⟨a, b, rfl⟩ : ∃ a b, xs = #[a, b] := by
      obtain ⟨l⟩ := xs
      match l, hxs with
      | [a, b], _ => exact ⟨a, b, rfl⟩
    rw [hm] at h
    unfold Program.keyLits at h
    simp only [Try.underlying67, Value.cells] at h
    rw [if_pos ⟨by rw [cellsLb]; rfl, by simp⟩] at h
    have hk : ∀ c ls, Try.prog.keyLits (m + 1) 9 [c] = some ls → ∃ s : ByteArray, c = .string s ∧ s.size ≤ maxLen ∧ ls = [.string s.data.toList] := fun c ls hh => by
      unfold Program.keyLits at hh
      simp only [Try.underlying9] at hh
      cases c <;> simp at hh
      obtain ⟨h1, h2⟩ := hh
      exact ⟨_, rfl, h1, h2.symm⟩
    simp only [cellsSt, List.mapM_cons, List.mapM_nil] at h
    obtain ⟨ls, hls, rfl⟩ := Option.map_eq_some_iff.1 h
    obtain ⟨xx, hxx, rfl⟩ := Option.map_eq_some_iff.1 hls
    simp only [bind, Option.bind_eq_some_iff, pure, Option.some.injEq] at hxx
    obtain ⟨l1, h1, l2, ⟨l3, h3, l4, rfl, rfl⟩, rfl⟩ := hxx
    obtain ⟨s1, e1, e2, rfl⟩ := hk a _ h1
    obtain ⟨s2, e3, e4, rfl⟩ := hk b _ h3
    subst e1 e3
    refine ⟨⟨s1.data.toList, s2.data.toList⟩, ?_, ⟨?_, ?_⟩, rfl⟩
    · unfold lbV
      rw [← of_mkS s1, ← of_mkS s2]
    · unfold maxLen at e2
      simpa using e2
    · unfold maxLen at e4
      simpa using e4
  · cases h
theorem lbV_inj {x y : Lb} (h : lbV x = lbV y) : x = y := by
  unfold lbV at h
  simp only [Value.agg.injEq, Array.mk.injEq, List.cons.injEq, Value.string.injEq, and_true] at h
  obtain ⟨e1, e2⟩ := h
  have f1 : x.nm = y.nm := by simpa [mkS] using congrArg (fun s : ByteArray => s.data.toList) e1
  have f2 : x.vl = y.vl := by simpa [mkS] using congrArg (fun s : ByteArray => s.data.toList) e2
  cases x
  cases y
  simp only at f1 f2
  rw [f1, f2]
theorem kl_inj {x y : Lb} (hx : Fits2 x) (hy : Fits2 y) (h : kl x = kl y) : x = y := by
  have h1 := keyLb x hx
  have h2 := keyLb y hy
  rw [h] at h1
  have h3 := law.inj h1 h2
  unfold lbV at h3
  simp only [Value.agg.injEq, Array.mk.injEq, List.cons.injEq, Value.string.injEq, and_true] at h3
  obtain ⟨e1, e2⟩ := h3
  have f1 : x.nm = y.nm := by simpa [mkS] using congrArg (fun s : ByteArray => s.data.toList) e1
  have f2 : x.vl = y.vl := by simpa [mkS] using congrArg (fun s : ByteArray => s.data.toList) e2
  cases x
  cases y
  simp only at f1 f2
  rw [f1, f2]
theorem kl_lit (y : Lb) : WideAt.IsKeyLit (kl y) := trivial
end Go.Proofs.Ytlfhcjhbnakamaa.Iy
/-
  maps.Keys at a map whose keys are labels: its iterator, for every loop body.
-/
namespace Go.Proofs.Ytlfhcjhbnakamaa.Iy
open Go.RowKit Go.Shelf Go.Gh Go.Maps
set_option linter.unusedVariables false
set_option linter.unusedSimpArgs false
attribute [local go_sem] Oper.semAt_some
/-- What has come. -/
def Coll {H : Type} (D0 : DataW H) (left : Lit → Bool) (ys : List Lb) : Prop := ys.Nodup ∧ ∀ y, y ∈ ys ↔ (Fits2 y ∧ Maps.has D0 (kl y) = true ∧ left (kl y) = false)
theorem Coll.start {H : Type} (D0 : DataW H) : Coll D0 (Maps.has D0) [] := ⟨List.nodup_nil, fun y => by cases Maps.has D0 (kl y) <;> simp⟩
theorem Coll.step {H : Type} {D0 : DataW H} {left : Lit → Bool} {ys : List Lb} (h : Coll D0 left ys) {x : Lb} (hx : Fits2 x) (hlk : left (kl x) = true) (hhas : Maps.has D0 (kl x) = true) : Coll D0 (fun z => left z && !z.sameKey (kl x)) (ys ++ [x]) := by
  have hnew : x ∉ ys := fun hx => by have := ((h.2 x).1 hx).2.2; rw [hlk] at this; cases this
  refine ⟨List.nodup_append.2 ⟨h.1, by simp, fun a ha b hb => by simp at hb; subst hb; exact fun e => hnew (e ▸ ha)⟩, fun y => ?_⟩
  by_cases hy : y = x
  · subst hy
    simp [hx, hhas, WideAt.sameKey_self (kl_lit y)]
  · simp only [List.mem_append, List.mem_singleton, hy, or_false, h.2 y]
    constructor
    · rintro ⟨h1, h2, h3⟩
      exact ⟨h1, h2, by rw [h3]; rfl⟩
    · rintro ⟨h1, h2, h3⟩
      refine ⟨h1, h2, ?_⟩
      have hne : (kl y).sameKey (kl x) = false := by
        cases hs : (kl y).sameKey (kl x)
        · rfl
        · exact absurd (kl_inj h1 hx (WideAt.sameKey_eq hs)) hy
      rw [hne] at h3
      simpa using h3
set_option maxRecDepth 100000 in
set_option maxHeartbeats 4000000 in
theorem keys1_in {H : Type} (F : Fence) (n : Nat) (hf : F.fn 100) (hro : F.round = none) (hn : 1 ≤ n) (l Bm b nn : Nat) (D0 : DataW H) {R : Value → Option (DataW H × List MemPlace)} (J Jx : List Lb → World → Prop)
    (hY : ∀ pre x W, J pre W → pre.length < Maps.size D0 → YieldAt F (n - 1) Try.prog l #[lbV x] W fun e W' =>
      (e = .returned (.bool true) ∧ J (pre ++ [x]) W' ∧ KeepsWalks W W') ∨ (e = .returned (.bool false) ∧ Jx (pre ++ [x]) W'))
    (W : World) (hJ : AbidesFrom W.heap.size J) (hm : W.cell? ⟨Bm, 0, none⟩ = some (.map (some b))) (hown : W.ownsMap Try.prog 67 R b nn D0) (h0 : J [] W) :
    CallsIn F n Try.prog 100 #[.func (.yield l) #[] #[], .pointer (some ⟨Bm, 0, none⟩)] W fun e W' => (∃ v, e = .returned v) ∧
      ((∃ ys : List Lb, (ys.Nodup ∧ ∀ y, y ∈ ys ↔ (Fits2 y ∧ Maps.has D0 (kl y) = true)) ∧ J ys W') ∨ (∃ pre : List Lb, True ∧ Jx pre W')) := by
  refine callsIn_of_wp Try.func100 rfl hf ?_ hro
  simp only [Try.ntmps100, List.size_toArray, List.length_cons, List.length_nil, Nat.reduceAdd, Nat.reduceSub, Array.replicate_succ, Array.replicate_zero, List.push_toArray, List.append_toArray, List.nil_append, List.cons_append]
  gi_wp2_with (first
    | (gi_at_range; refine wpListIn_range_own _ rfl _ 91 rfl 67 35 law Try.underlying91 _ b nn _ rfl hown ?_; intro w0 hrg0 hg0 hs0)
    | gi_in)
  go_frame
  gi_loopw [3] (fun _ wr => ∃ (left : Lit → Bool) (cnt : Nat) (ys : List Lb), wr.ranges Try.prog 67 R b W.heap.size nn D0 left cnt ∧ ys.length + cnt ≤ Maps.size D0 ∧ Coll D0 left ys ∧ J ys wr)
    (fun _ wr => wr.rangeLeft b W.heap.size)
  case atStart =>
    exact ⟨_, _, [], hrg0, by simp, Coll.start D0, hJ [] W w0 none h0 hg0 (fun r e => by cases e)⟩
  case round =>
    obtain ⟨left, cnt, ys, hrg, hcs, hC, hJs⟩ := hrel
    gi_wp2_with (first
      | (gi_at_next; refine wpListIn_next_ranges _ rfl _ rfl 67 law R lbV id (fun key k2 hk => by obtain ⟨x, hx, _⟩ := keyLb_inv hk; exact ⟨x, hx⟩) (fun v _ _ => ⟨v, rfl⟩) b W.heap.size nn _ _ _ rfl hrg ?_ ?_)
      | gi_in)
    · intro hc0 hl0
      gi_wp2
      go_end0
      exact ⟨⟨_, rfl⟩, .inl ⟨ys, ⟨hC.1, fun y => by rw [hC.2 y, hl0]; simp⟩, hJs⟩⟩
    · intro x c k2 yd yp w2 cnt2 hkey hlk hv hat hrg2 hlt hg2 hs2 hen
      obtain ⟨x', ex, hx, rfl⟩ := keyLb_inv hkey
      obtain rfl : x = x' := lbV_inj ex
      have hJ2 : J ys w2 := hJ ys wr w2 (some W.heap.size) hJs hg2 (fun r e => by cases e; exact ⟨Nat.le_refl _, hrg.iter_walk⟩)
      have hJ3 : J ys (w2.alloc (.cells #[.string (mkS x.nm), .string (mkS x.vl)] 67)) := hJ ys w2 _ none hJ2 (World.grownBy_alloc _ _ _) (fun r e => by cases e)
      have hC2 := hC.step hx hlk (has_true_of_atKey hat)
      have hrg3 := hrg2.of_walks (KeepsWalks.alloc w2 (.cells #[.string (mkS x.nm), .string (mkS x.vl)] 67))
      obtain ⟨fn, tmps, assign, body, hy, hR⟩ := hY ys x _ hJ3 (by omega)
      have hlb : lbV x = .agg #[.string (mkS x.nm), .string (mkS x.vl)] := rfl
      rw [hlb] at hen hy
      clear hs2 hlb hkey ex
      gi_wp2
      refine hR.mono ?_
      rintro e W3 (⟨rfl, hJ4, hk4⟩ | ⟨rfl, hJx4⟩)
      · gi_wp2
        have hrg4 := hrg3.of_walks hk4
        go_roundw
        case rel => exact ⟨_, cnt2, ys ++ [x], hrg4, by simp; omega, hC2, hJ4⟩
        case measure => rw [hrg4.left_eq, hrg.left_eq]; exact hlt
      · gi_wp2
        refine bodyPost_ret (results_none rfl _ _ _) rfl ?_
        exact ⟨⟨_, rfl⟩, .inr ⟨ys ++ [x], trivial, hJx4⟩⟩
theorem keys_stops {H : Type} (F : Fence) (n : Nat) (hf : F.fn 100) (hro : F.round = none) (hn : 1 ≤ n) (Bm b nn : Nat) (D0 : DataW H) {R : Value → Option (DataW H × List MemPlace)} (w : World) (hBm : Bm < w.heap.size)
    (hm : w.cell? ⟨Bm, 0, none⟩ = some (.map (some b))) (hown : w.ownsMap Try.prog 67 R b nn D0) :
    SeqStops F n Try.prog 100 #[.pointer (some ⟨Bm, 0, none⟩)] lbV (fun ys => ys.Nodup ∧ ∀ y, y ∈ ys ↔ (Fits2 y ∧ Maps.has D0 (kl y) = true)) (fun _ => True) (Maps.size D0) w := fun l J Jx W hW hJ _ hY h0 => by
  have hown' : W.ownsMap Try.prog 67 R b nn D0 := by
    have hbl := hown.lt
    obtain ⟨es, clock, hb, Ft, hs, hD⟩ := hown
    exact ⟨es, clock, (hW.block b hbl).trans hb, Ft, hs, hD⟩
  exact keys1_in F n hf hro hn l Bm b nn D0 J Jx hY W hJ ((hW.cell (p := ⟨Bm, 0, none⟩) hBm).trans hm) hown' h0
set_option maxHeartbeats 1000000 in
theorem keys_in (F : Fence) (n : Nat) (hf : F.fn 65) (hro : F.round = none) (mb : Option Nat) (w : World) :
    CallsIn F n Try.prog 65 #[.map mb] w fun e w' => e = .returned (.func (.func 100) #[] #[.pointer (some ⟨w.heap.size, 0, none⟩)]) ∧ w' = w.alloc (.cells #[.map mb] 91) := by
  refine callsIn_of_wp Try.func65 rfl hf ?_ hro
  simp only [Try.ntmps65, List.size_toArray, List.length_cons, List.length_nil, Nat.reduceAdd, Nat.reduceSub, Array.replicate_succ, Array.replicate_zero, List.push_toArray, List.append_toArray, List.nil_append, List.cons_append]
  gi_wp2
  go_ret
  exact ⟨rfl, rfl⟩
end Go.Proofs.Ytlfhcjhbnakamaa.Iy
