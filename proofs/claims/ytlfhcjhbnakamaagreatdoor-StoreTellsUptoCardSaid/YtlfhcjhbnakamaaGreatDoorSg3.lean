/-
  Words shared by the walks, part six: append of whatever slice (nil too) to a row that is not empty; one cell of a row written over.
-/
import Derived.Test.YtlfhcjhbnakamaaGreatDoorSg1
import Derived.Test.YtlfhcjhbnakamaaGreatDoorSg2
import Derived.Laws.AppendOwnNone
namespace Go.Gh
open Go.RowKit
set_option linter.unusedVariables false

theorem run_append_any {P : Program} {W : World} {B : Nat} {t ty e : TypeId} {size bytes n m c : Nat} {ao : Option Addr} {v : Value} {xs news : List Value} (el : Elem P t e size bytes) (hown : W.ownsRow B e size v n xs) (hx : Sl W size (.slice ao m c) m news) (h1 : ∀ u ∈ news, u.oneCell' = true)
    (hn : 0 < n) (h47 : (n + m) * bytes ≤ 140737488355328) (h63 : n + m ≤ 9223372036854775807) (hB : B ≤ W.heap.size) :
    ∃ g cap w', (Builtin.append_ #[t, t] ty #[v, .slice ao m c]).run P W = .ok (.slice (some ⟨g, 0, none⟩) (n + m) cap) w' ∧ w'.ownsRow B e size (.slice (some ⟨g, 0, none⟩) (n + m) cap) (n + m) (xs ++ news) ∧ W.grownBy w' v.ownBlock := by
  obtain ⟨i, z, h2, h3, h4, h5, h6⟩ := el.info
  have hl : news.length = m * size := by obtain ⟨_, _, _, _, _, _, h, _⟩ := hx; exact h
  cases ao with
  | none =>
    obtain ⟨rfl, rfl⟩ : m = 0 ∧ c = 0 := by
      obtain ⟨ao', cap, e1, h, _, h', _, _⟩ := hx
      simp at e1
      obtain ⟨rfl, rfl⟩ := e1
      have := h' rfl
      omega
    have hnil : news = [] := List.length_eq_zero_iff.1 (by simpa using hl)
    subst hnil
    obtain ⟨g, cap, rfl, _, _⟩ := hown.form hn
    have hr := run_append_owned_none (P := P) (w := W) B t ty e i size el.und h2 _ n xs hown
    exact ⟨g, cap, W, hr, by rw [List.append_nil]; exact hown, ⟨rfl, rfl, rfl, Nat.le_refl _, fun _ _ _ => rfl⟩⟩
  | some ad =>
    obtain ⟨v', w', hr, h7, h8, _⟩ := run_append_own (P := P) W B t ty e i z size bytes el.und h2 h3 h4 h5 h6 el.pos v n xs hown ad m c news hl (sl_news hx) h1 (by unfold maxLen; exact h63) h47 hB
    obtain ⟨g, cap, rfl, _, _⟩ := h7.form (by omega)
    exact ⟨g, cap, w', hr, h7, h8⟩
theorem wp_append_any {P : Program} {o : Oper} {a : Act} {K : Act → World → Prop} {Q : Exit → Act → World → Prop} {W : World} {B : Nat} {t e : TypeId} {size bytes n m c : Nat} {ao : Option Addr} {v : Value} {xs news : List Value} (el : Elem P t e size bytes) (s x : Operand)
    (ho : o.op = .call { callee := .builtin .append, args := #[s, x], argTypes := #[t, t] }) (hown : W.ownsRow B e size v n xs) (hs : a.eval s = v) (hxv : a.eval x = .slice ao m c) (hx : Sl W size (.slice ao m c) m news) (h1 : ∀ u ∈ news, u.oneCell' = true)
    (hn : 0 < n) (h47 : (n + m) * bytes ≤ 140737488355328) (h63 : n + m ≤ 9223372036854775807) (hB : B ≤ W.heap.size)
    (h : ∀ g cap w', w'.ownsRow B e size (.slice (some ⟨g, 0, none⟩) (n + m) cap) (n + m) (xs ++ news) → W.grownBy w' v.ownBlock → K (a.put o.dst (.slice (some ⟨g, 0, none⟩) (n + m) cap)) w') : o.wp P a W K Q := by
  obtain ⟨g, cap, w', hr, h2, h3⟩ := run_append_any (P := P) (ty := o.type) el hown hx h1 hn h47 h63 hB
  unfold Oper.wp execOp
  simp only [ho, resolve, invoke, builtin, Sem.run_bind, Sem.run_pure, Result.andThen_ok, List.map_toArray, List.map_cons, List.map_nil, hs, hxv, hr]
  exact h g cap w' h2 h3
theorem step_append_any {P : Program} {ops : Array Oper} {o : Oper} {a : Act} {K : Act → World → Prop} {Q : Exit → Act → World → Prop} {E : Prop} {W : World} {B : Nat} {t e : TypeId} {size bytes n m c : Nat} {ao : Option Addr} {v : Value} {xs news : List Value} (el : Elem P t e size bytes) (hgd : o.guard = none) (s x : Operand)
    (ho : o.op = .call { callee := .builtin .append, args := #[s, x], argTypes := #[t, t] }) (hown : W.ownsRow B e size v n xs) (hs : a.eval s = v) (hxv : a.eval x = .slice ao m c) (hx : Sl W size (.slice ao m c) m news) (h1 : ∀ u ∈ news, u.oneCell' = true)
    (hn : 0 < n) (h47 : (n + m) * bytes ≤ 140737488355328) (h63 : n + m ≤ 9223372036854775807) (hB : B ≤ W.heap.size)
    (h : ∀ g cap w', w'.ownsRow B e size (.slice (some ⟨g, 0, none⟩) (n + m) cap) (n + m) (xs ++ news) → W.grownBy w' v.ownBlock → K (a.put o.dst (.slice (some ⟨g, 0, none⟩) (n + m) cap)) w') :
    if Region.wanted o (yielded ops a.tmps) = true then Oper.wp P o a W K Q else E := by
  have hw : Region.wanted o (yielded ops a.tmps) = true := by simp [Region.wanted, hgd]
  rw [if_pos hw]
  exact wp_append_any el s x ho hown hs hxv hx h1 hn h47 h63 hB h
theorem wpList_append_any {P : Program} {ops : Array Oper} {rest : List Oper} {o : Oper} {a : Act} {Q : Exit → Act → World → Prop} {W : World} {B : Nat} {t e : TypeId} {size bytes n m c : Nat} {ao : Option Addr} {v : Value} {xs news : List Value} (el : Elem P t e size bytes) (hgd : o.guard = none) (s x : Operand)
    (ho : o.op = .call { callee := .builtin .append, args := #[s, x], argTypes := #[t, t] }) (hown : W.ownsRow B e size v n xs) (hs : a.eval s = v) (hxv : a.eval x = .slice ao m c) (hx : Sl W size (.slice ao m c) m news) (h1 : ∀ u ∈ news, u.oneCell' = true)
    (hn : 0 < n) (h47 : (n + m) * bytes ≤ 140737488355328) (h63 : n + m ≤ 9223372036854775807) (hB : B ≤ W.heap.size)
    (h : ∀ g cap w', w'.ownsRow B e size (.slice (some ⟨g, 0, none⟩) (n + m) cap) (n + m) (xs ++ news) → W.grownBy w' v.ownBlock → wpList P ops Q rest (a.put o.dst (.slice (some ⟨g, 0, none⟩) (n + m) cap)) w') : wpList P ops Q (o :: rest) a W :=
  wpList_plain hgd fun _ hK => wp_append_any el s x ho hown hs hxv hx h1 hn h47 h63 hB fun g cap w' h2 h3 => hK _ _ (h g cap w' h2 h3)
/-- A copy of a slice, made by append to nil. -/
theorem wpList_append_copy {P : Program} {ops : Array Oper} {rest : List Oper} {o : Oper} {a : Act} {Q : Exit → Act → World → Prop} {W w0 : World} {B : Nat} {t e : TypeId} {size bytes m c : Nat} {ao : Option Addr} {news : List Value} (el : Elem P t e size bytes) (hgd : o.guard = none) (s x : Operand)
    (ho : o.op = .call { callee := .builtin .append, args := #[s, x], argTypes := #[t, t] }) (hs : a.eval s = .slice none 0 0) (hxv : a.eval x = .slice ao m c) (hx : Sl W size (.slice ao m c) m news) (h1 : ∀ u ∈ news, u.oneCell' = true)
    (h47 : m * bytes ≤ 140737488355328) (h63 : m ≤ 9223372036854775807) (hbel : Below B w0 W) (hB : B ≤ W.heap.size)
    (h : ∀ v' w', w'.ownsRow B e size v' m news → Below B w0 w' → wpList P ops Q rest (a.put o.dst v') w') : wpList P ops Q (o :: rest) a W := by
  obtain ⟨i, z, h2, h3, h4, h5, h6⟩ := el.info
  have hl : news.length = m * size := by obtain ⟨_, _, _, _, _, _, h, _⟩ := hx; exact h
  cases ao with
  | none =>
    obtain ⟨rfl, rfl⟩ : m = 0 ∧ c = 0 := by
      obtain ⟨ao', cap, e1, h, _, h', _, _⟩ := hx
      simp at e1
      obtain ⟨rfl, rfl⟩ := e1
      have := h' rfl
      omega
    have hnil : news = [] := List.length_eq_zero_iff.1 (by simpa using hl)
    subst hnil
    exact wpList_append_own_none hgd s x t ho B e i size el.und h2 _ 0 [] hs (World.ownsRow_nil _ _ _ _) hxv (h _ _ (World.ownsRow_nil _ _ _ _) hbel)
  | some ad =>
    refine appendS el hgd s x ho (World.ownsRow_nil W B e size) hbel hB hs hxv hx h1 (by rw [Nat.zero_add]; exact h47) (by omega) ?_
    intro v' w' h7 h8 _
    rw [Nat.zero_add, List.nil_append] at h7
    exact h v' w' h7 h8
theorem rowCells_set {k : Nat} {l : List (List Int)} (h : RowsK k l) {i j : Nat} (hi : i < l.length) (hj : j < k) (z : Int) : (rowCells l).set (i * k + j) (.int .i64 z) = rowCells (l.set i ((l.getD i []).set j z)) := by
  have hg : l.getD i [] = l[i] := by rw [List.getD_eq_getElem?_getD, List.getElem?_eq_getElem hi]; rfl
  rw [hg]
  have e1 : l = l.take i ++ [l[i]] ++ l.drop (i + 1) := by
    rw [List.append_assoc, List.singleton_append, ← List.drop_eq_getElem_cons hi, List.take_append_drop]
  have e2 : l.set i (l[i].set j z) = l.take i ++ [l[i].set j z] ++ l.drop (i + 1) := by
    rw [List.set_eq_take_append_cons_drop, if_pos hi, List.append_assoc, List.singleton_append]
  have hri := h l[i] (List.getElem_mem _)
  have hl : (rowCells (l.take i)).length = i * k := by
    rw [rowCells_len k _ (fun r hr => h r (List.mem_of_mem_take hr)), List.length_take, Nat.min_eq_left (by omega)]
  rw [e2]
  conv => lhs; rw [e1]
  rw [rowCells_append, rowCells_append, rowCells_append, rowCells_append, rowCells_one, rowCells_one, List.append_assoc, List.set_append_right _ _ (by omega), hl, Nat.add_sub_cancel_left, List.set_append_left _ _ (by rw [List.length_map, hri]; exact hj), List.map_set, List.append_assoc]
/-- Parts of a row that is the call's own: what lies ahead of a place, with no room behind; what lies from the place on. -/
theorem own_parts {W : World} {B : Nat} {e : TypeId} {size n g cap i : Nat} {xs : List Value} (h : W.ownsRow B e size (.slice (some ⟨g, 0, none⟩) n cap) n xs) (hi : i ≤ n) :
    Sl W size (.slice (some ⟨g, 0, none⟩) i i) i (xs.take (i * size)) ∧ Sl W size (.slice (if cap = i then some ⟨g, 0, none⟩ else some ⟨g, i * size, none⟩) (n - i) (cap - i)) (n - i) (xs.drop (i * size)) := by
  have hsl := own_sl h
  obtain ⟨ao, c, e1, h2, h3, h4, h5, h6⟩ := hsl
  have hsl := own_sl h
  constructor
  · refine ⟨_, _, rfl, Nat.le_refl _, by simp at e1; omega, by simp, ?_, fun hp => ?_⟩
    · rw [List.length_take, h5, Nat.min_eq_left (Nat.mul_le_mul_right _ hi)]
    · obtain ⟨b, off, e2, hc⟩ := h6 (by omega)
      simp at e1
      rw [e2] at e1
      simp at e1
      obtain ⟨⟨rfl, rfl⟩, _⟩ := e1
      refine ⟨g, 0, rfl, fun j u hu => hc j u ?_⟩
      have hj : j < i * size := by
        rcases Nat.lt_or_ge j (i * size) with h | h
        · exact h
        · rw [List.getElem?_take, if_neg (by omega)] at hu; simp at hu
      rwa [List.getElem?_take, if_pos hj] at hu
  · have := sl_sliced hsl hi (Nat.le_refl _)
    rw [List.take_of_length_le (by rw [List.length_drop, h5, Nat.sub_mul]; omega)] at this
    unfold sliced at this
    simpa [addr_add] using this
/-- append of a slice to a literal of one element. -/
theorem wp_append_lit {P : Program} {o : Oper} {a : Act} {K : Act → World → Prop} {Q : Exit → Act → World → Prop} {W0 : World} {t e : TypeId} {size bytes m c : Nat} {ao : Option Addr} {news : List Value} (cells : List Value) (el : Elem P t e size bytes) (s x : Operand)
    (ho : o.op = .call { callee := .builtin .append, args := #[s, x], argTypes := #[t, t] }) (hs : a.eval s = .slice (some ⟨W0.heap.size, 0, none⟩) 1 1) (hxv : a.eval x = .slice ao m c) (hx : Sl W0 size (.slice ao m c) m news) (hl : cells.length = size) (h1 : ∀ u ∈ news, u.oneCell' = true)
    (h47 : (1 + m) * bytes ≤ 140737488355328) (h63 : 1 + m ≤ 9223372036854775807)
    (h : ∀ g cap w', w'.ownsRow W0.heap.size e size (.slice (some ⟨g, 0, none⟩) (1 + m) cap) (1 + m) (cells ++ news) → Below W0.heap.size W0 w' → K (a.put o.dst (.slice (some ⟨g, 0, none⟩) (1 + m) cap)) w') : o.wp P a (W0.alloc (.cells cells.toArray e)) K Q := by
  have hown : (W0.alloc (.cells cells.toArray e)).ownsRow W0.heap.size e size (.slice (some ⟨W0.heap.size, 0, none⟩) 1 1) 1 cells := own_build W0 cells (Nat.le_refl _) (by rw [Nat.one_mul]; exact hl) (by decide)
  refine wp_append_any el s x ho hown hs hxv (hx.alloc _) h1 (by decide) h47 h63 (by simp) ?_
  intro g cap w' h2 h3
  exact h g cap w' h2 (below_own hown ((Below.refl _ W0).alloc (Nat.le_refl _) _) (Nat.le_refl _) (by simp) h3)
theorem step_append_lit {P : Program} {ops : Array Oper} {o : Oper} {a : Act} {K : Act → World → Prop} {Q : Exit → Act → World → Prop} {E : Prop} {W0 : World} {t e : TypeId} {size bytes m c : Nat} {ao : Option Addr} {news : List Value} (cells : List Value) (el : Elem P t e size bytes) (hgd : o.guard = none) (s x : Operand)
    (ho : o.op = .call { callee := .builtin .append, args := #[s, x], argTypes := #[t, t] }) (hs : a.eval s = .slice (some ⟨W0.heap.size, 0, none⟩) 1 1) (hxv : a.eval x = .slice ao m c) (hx : Sl W0 size (.slice ao m c) m news) (hl : cells.length = size) (h1 : ∀ u ∈ news, u.oneCell' = true)
    (h47 : (1 + m) * bytes ≤ 140737488355328) (h63 : 1 + m ≤ 9223372036854775807)
    (h : ∀ g cap w', w'.ownsRow W0.heap.size e size (.slice (some ⟨g, 0, none⟩) (1 + m) cap) (1 + m) (cells ++ news) → Below W0.heap.size W0 w' → K (a.put o.dst (.slice (some ⟨g, 0, none⟩) (1 + m) cap)) w') :
    if Region.wanted o (yielded ops a.tmps) = true then Oper.wp P o a (W0.alloc (.cells cells.toArray e)) K Q else E := by
  have hw : Region.wanted o (yielded ops a.tmps) = true := by simp [Region.wanted, hgd]
  rw [if_pos hw]
  exact wp_append_lit cells el s x ho hs hxv hx hl h1 h47 h63 h
/-- A row is put in at a place of a row that is the call's own. -/
theorem own_ins {w' : World} {B : Nat} {e : TypeId} {k p j g cap : Nat} {acc : List (List Int)} {r : List Int} (h : w'.ownsRow B e k (.slice (some ⟨g, 0, none⟩) (j + (1 + (p - j))) cap) (j + (1 + (p - j))) ((rowCells acc).take (j * k) ++ (r.map (Value.int .i64) ++ (rowCells acc).drop (j * k)))) (hk : RowsK k acc) (hp : acc.length = p) (hj : j ≤ p) :
    w'.ownsRow B e k (.slice (some ⟨g, 0, none⟩) (p + 1) cap) (p + 1) (rowCells (acc.take j ++ r :: acc.drop j)) := by
  rw [rowCells_ins, ← rowCells_take hk j, ← rowCells_drop hk j (by omega)]
  rw [show j + (1 + (p - j)) = p + 1 by omega] at h
  exact h
theorem own_ins_end {w' : World} {B : Nat} {e : TypeId} {k j g cap : Nat} {acc : List (List Int)} {r : List Int} (h : w'.ownsRow B e k (.slice (some ⟨g, 0, none⟩) (j + 1) cap) (j + 1) ((rowCells acc).take (j * k) ++ (r.map (Value.int .i64) ++ (rowCells acc).drop (j * k)))) (hk : RowsK k acc) (hp : acc.length = j) :
    w'.ownsRow B e k (.slice (some ⟨g, 0, none⟩) (j + 1) cap) (j + 1) (rowCells (acc.take j ++ r :: acc.drop j)) := by
  rw [rowCells_ins, ← rowCells_take hk j, ← rowCells_drop hk j (by omega)]
  exact h
theorem sl_nil (w : World) (size : Nat) : Sl w size (.slice none 0 0) 0 [] := ⟨none, 0, rfl, Nat.le_refl _, Nat.zero_le _, fun _ => rfl, by simp, fun h => absurd h (Nat.lt_irrefl _)⟩
/-- The whole of an owned row, as what lies ahead of its end; what lies behind is nothing. -/
theorem own_end {W : World} {B : Nat} {e : TypeId} {size n c : Nat} {ao : Option Addr} {xs : List Value} (h : W.ownsRow B e size (.slice ao n c) n xs) :
    (ao = none ∧ n = 0 ∧ c = 0 ∧ Sl W size (.slice none 0 0) 0 (xs.take (n * size)) ∧ Sl W size (.slice none 0 0) 0 (xs.drop (n * size))) ∨
    ∃ g, ao = some ⟨g, 0, none⟩ ∧ Sl W size (.slice (some ⟨g, 0, none⟩) n n) n (xs.take (n * size)) ∧ ((c = n ∧ Sl W size (.slice (some ⟨g, 0, none⟩) 0 0) 0 (xs.drop (n * size))) ∨ (¬ c = n ∧ Sl W size (.slice (some ⟨g, n * size, none⟩) 0 (c - n)) 0 (xs.drop (n * size)))) := by
  have hl := h.1
  rcases h.2 with ⟨e1, hn⟩ | ⟨g, cap, cur, e1, _⟩
  · left
    simp at e1
    obtain ⟨rfl, rfl, rfl⟩ := e1
    have : xs = [] := List.length_eq_zero_iff.1 (by simpa using hl)
    subst this
    exact ⟨rfl, rfl, rfl, by simpa using sl_nil W size, by simpa using sl_nil W size⟩
  · right
    simp at e1
    obtain ⟨rfl, rfl⟩ := e1
    obtain ⟨p1, p2⟩ := own_parts h (Nat.le_refl _)
    rw [Nat.sub_self] at p2
    refine ⟨g, rfl, p1, ?_⟩
    by_cases hc : c = n
    · left
      rw [if_pos hc] at p2
      subst hc
      rw [Nat.sub_self] at p2
      exact ⟨rfl, p2⟩
    · right
      rw [if_neg hc] at p2
      exact ⟨hc, p2⟩
end Go.Gh
/-
  Slices of whatever elements: how they read; rows of the call's own; arguments opened.
-/
namespace Go.Gh
open Go.RowKit Go.ChangeShapes Go.WideShapes Go.ChangeAt Go.Deep
set_option linter.unusedVariables false
section
variable {α : Type}
/-- The cells of elements, each with its cells. -/
def pc (P : List (α × List Value)) : List Value := P.flatMap (·.2)
def PK (k : Nat) (P : List (α × List Value)) : Prop := ∀ p ∈ P, p.2.length = k
theorem pc_nil : pc ([] : List (α × List Value)) = [] := rfl
theorem pc_cons (p : α × List Value) (P : List (α × List Value)) : pc (p :: P) = p.2 ++ pc P := rfl
theorem pc_append (P Q : List (α × List Value)) : pc (P ++ Q) = pc P ++ pc Q := List.flatMap_append
theorem pc_snoc (P : List (α × List Value)) (a : α) (c : List Value) : pc P ++ c = pc (P ++ [(a, c)]) := by
  rw [pc_append, pc_cons, pc_nil, List.append_nil]
variable {k : Nat} {P : List (α × List Value)}
theorem PK.nil : PK k ([] : List (α × List Value)) := fun p hp => by simp at hp
theorem PK.snoc (h : PK k P) {a : α} {c : List Value} (hc : c.length = k) : PK k (P ++ [(a, c)]) := by
  intro p hp
  rcases List.mem_append.1 hp with h' | h'
  · exact h p h'
  · have : p = (a, c) := by simpa using h'
    rw [this]; exact hc
theorem PK.drop (h : PK k P) (i : Nat) : PK k (P.drop i) := fun p hp => h p (List.mem_of_mem_drop hp)
theorem PK.take (h : PK k P) (i : Nat) : PK k (P.take i) := fun p hp => h p (List.mem_of_mem_take hp)
theorem pc_len : ∀ {P : List (α × List Value)}, PK k P → (pc P).length = P.length * k
  | [], _ => by simp [pc]
  | p :: P, h => by
    rw [pc_cons, List.length_append, h p (by simp), pc_len (P := P) (fun q hq => h q (by simp [hq])), List.length_cons, Nat.succ_mul, Nat.add_comm]
theorem pc_get : ∀ {P : List (α × List Value)} {i j : Nat} {p : α × List Value}, PK k P → P[i]? = some p → j < k → (pc P)[i * k + j]? = p.2[j]?
  | [], i, j, p, _, h, _ => by simp at h
  | q :: P, 0, j, p, h, hi, hj => by
    have : q = p := by simpa using hi
    subst this
    rw [pc_cons, Nat.zero_mul, Nat.zero_add, List.getElem?_append_left (by rw [h q (by simp)]; exact hj)]
  | q :: P, i + 1, j, p, h, hi, hj => by
    have hq := h q (by simp)
    rw [pc_cons, Nat.succ_mul, List.getElem?_append_right (by rw [hq]; omega), hq, show i * k + k + j - k = i * k + j from by omega]
    exact pc_get (fun r hr => h r (by simp [hr])) (by simpa using hi) hj
theorem pc_drop (h : PK k P) (i : Nat) (hi : i ≤ P.length) : (pc P).drop (i * k) = pc (P.drop i) := by
  conv => lhs; rw [← List.take_append_drop i P]
  have hl : (pc (P.take i)).length = i * k := by rw [pc_len (h.take i), List.length_take, Nat.min_eq_left hi]
  rw [pc_append, List.drop_append_of_le_length (by omega), List.drop_of_length_le (by omega), List.nil_append]
theorem pc_take (h : PK k P) (i : Nat) : (pc P).take (i * k) = pc (P.take i) := by
  rcases Nat.lt_or_ge i P.length with hi | hi
  · conv => lhs; rw [← List.take_append_drop i P]
    have hl : (pc (P.take i)).length = i * k := by rw [pc_len (h.take i), List.length_take, Nat.min_eq_left (by omega)]
    rw [pc_append, List.take_append_of_le_length (by omega), List.take_of_length_le (by omega)]
  · rw [List.take_of_length_le hi, List.take_of_length_le]
    rw [pc_len h]
    exact Nat.mul_le_mul_right _ hi
/-- An element is written over. -/
theorem pc_set (h : PK k P) {i : Nat} (hi : i < P.length) {a : α} {c : List Value} (hc : c.length = k) : setFrom (pc P) (i * k) c = pc (P.set i (a, c)) := by
  have e1 : P = P.take i ++ [P[i]] ++ P.drop (i + 1) := by
    rw [List.append_assoc, List.singleton_append, ← List.drop_eq_getElem_cons hi, List.take_append_drop]
  have e2 : P.set i (a, c) = P.take i ++ [(a, c)] ++ P.drop (i + 1) := by
    rw [List.set_eq_take_append_cons_drop, if_pos hi, List.append_assoc, List.singleton_append]
  have hl : (pc (P.take i)).length = i * k := by rw [pc_len (h.take i), List.length_take, Nat.min_eq_left (by omega)]
  rw [e2]
  conv => lhs; rw [e1]
  rw [pc_append, pc_append, pc_append, pc_append, ← hl]
  have := setFrom_mid c (pc [P[i]]) (pc (P.take i)) (pc (P.drop (i + 1))) (by rw [pc_cons, pc_nil, List.append_nil, h P[i] (List.getElem_mem _), hc])
  rw [this, pc_cons, pc_nil, List.append_nil]
theorem pair_at {L : List α} {i : Nat} {a : α} (h : P.map (·.1) = L) (hi : L[i]? = some a) : ∃ cs, P[i]? = some (a, cs) := by
  rw [← h, List.getElem?_map] at hi
  obtain ⟨p, h1, h2⟩ := Option.map_eq_some_iff.1 hi
  exact ⟨p.2, by rw [h1]; simp [← h2]⟩
/-- What is known of an element's cells stays known. -/
def Mono (R : World → α → List Value → Prop) : Prop := ∀ (w w' : World) (a : α) (c : List Value), R w a c → Below w.heap.size w w' → R w' a c
variable {R : World → α → List Value → Prop}
/-- The slice value v reads as the list L. -/
def Sp (R : World → α → List Value → Prop) (k : Nat) (w : World) (v : Value) (L : List α) : Prop :=
  ∃ P : List (α × List Value), P.map (·.1) = L ∧ PK k P ∧ (∀ p ∈ P, R w p.1 p.2) ∧ Sl w k v L.length (pc P)
theorem Sp.below {w w' : World} {v : Value} {L : List α} (hR : Mono R) (h : Sp R k w v L) (hb : Below w.heap.size w w') : Sp R k w' v L := by
  obtain ⟨P, h1, h2, h3, h4⟩ := h
  exact ⟨P, h1, h2, fun p hp => hR _ _ _ _ (h3 p hp) hb, h4.below hb⟩
theorem Sp.nil {w : World} : Sp R k w (.slice none 0 0) ([] : List α) := ⟨[], rfl, PK.nil, fun p hp => by simp at hp, none, 0, rfl, Nat.le_refl _, Nat.zero_le _, fun _ => rfl, by simp [pc], fun h => absurd h (Nat.lt_irrefl _)⟩
theorem Sp.shape {w : World} {v : Value} {L : List α} (h : Sp R k w v L) : ∃ ao c, v = .slice ao L.length c ∧ L.length ≤ c ∧ c ≤ 9223372036854775807 := by
  obtain ⟨P, h1, h2, h3, h4⟩ := h
  obtain ⟨ao, c, e, h5, h6, _⟩ := h4.shape
  exact ⟨ao, c, e, h5, h6⟩
theorem Sp.get {w : World} {ao : Option Addr} {n c i : Nat} {L : List α} {a : α} (h : Sp R k w (.slice ao n c) L) (hi : L[i]? = some a) :
    ∃ b off cs, ao = some ⟨b, off, none⟩ ∧ R w a cs ∧ cs.length = k ∧ ∀ j u, cs[j]? = some u → w.cell? ⟨b, off + i * k + j, none⟩ = some u := by
  obtain ⟨P, h1, h2, h3, ao', cap, e, h4, h5, h6, h7, h8⟩ := h
  simp at e
  obtain ⟨rfl, rfl, rfl⟩ := e
  have hlt : i < L.length := (List.getElem?_eq_some_iff.1 hi).1
  obtain ⟨b, off, rfl, hc⟩ := h8 (by omega)
  obtain ⟨cs, hp⟩ := pair_at h1 hi
  have hm : (a, cs) ∈ P := List.mem_of_getElem? hp
  refine ⟨b, off, cs, rfl, h3 _ hm, h2 _ hm, fun j u hu => ?_⟩
  have hj : j < k := by
    have h9 := (List.getElem?_eq_some_iff.1 hu).1
    have h10 : cs.length = k := h2 _ hm
    omega
  rw [Nat.add_assoc]
  exact hc _ u (by rw [pc_get h2 hp hj]; exact hu)
theorem take_pairs {L : List α} {i : Nat} (h : P.map (·.1) = L) : (P.take i).map (·.1) = L.take i := by rw [List.map_take, h]
theorem drop_pairs {L : List α} {i : Nat} (h : P.map (·.1) = L) : (P.drop i).map (·.1) = L.drop i := by rw [List.map_drop, h]
/-- x[lo:hi]. -/
theorem Sp.cut {w : World} {ao : Option Addr} {n c lo hi : Nat} {L : List α} (h : Sp R k w (.slice ao n c) L) (h1 : lo ≤ hi) (h2 : hi ≤ n) : Sp R k w (sliced ao lo hi c k) ((L.drop lo).take (hi - lo)) := by
  obtain ⟨P, e1, e2, e3, e4⟩ := h
  have hn : n = L.length := by
    obtain ⟨_, _, e, _⟩ := e4
    simp at e
    exact e.2.1
  subst hn
  have hlen : ((L.drop lo).take (hi - lo)).length = hi - lo := by rw [List.length_take, List.length_drop]; omega
  have hPl : P.length = L.length := by rw [← e1, List.length_map]
  refine ⟨(P.drop lo).take (hi - lo), by rw [List.map_take, List.map_drop, e1], (e2.drop lo).take _, fun p hp => e3 p (List.mem_of_mem_drop (List.mem_of_mem_take hp)), ?_⟩
  have := sl_sliced e4 h1 h2
  rw [pc_drop e2 lo (by omega), pc_take (e2.drop lo)] at this
  rw [hlen]
  exact this
/-- x[1:], spelled out. -/
theorem Sp.tail {w : World} {b off q c : Nat} {x : α} {L : List α} (h : Sp R k w (.slice (some ⟨b, off, none⟩) (q + 1) c) (x :: L)) :
    (c = 1 → Sp R k w (.slice (some ⟨b, off, none⟩) q 0) L) ∧ (¬ c = 1 → Sp R k w (.slice (some ⟨b, off + k, none⟩) q (c - 1)) L) := by
  have hq : q = L.length := by
    obtain ⟨_, _, e, _⟩ := h.shape
    simp at e
    exact e.2.1
  have := h.cut (show 1 ≤ q + 1 by omega) (Nat.le_refl _)
  rw [List.drop_succ_cons, List.drop_zero, List.take_of_length_le (by omega)] at this
  unfold sliced at this
  constructor
  · intro hc
    subst hc
    simpa using this
  · intro hc
    rw [if_neg hc] at this
    simpa [addr_add] using this
/-- A row of the call's own that holds the list L. -/
def Ow (R : World → α → List Value → Prop) (k : Nat) (T : TypeId) (B : Nat) (w : World) (v : Value) (L : List α) : Prop :=
  ∃ P : List (α × List Value), P.map (·.1) = L ∧ PK k P ∧ (∀ p ∈ P, R w p.1 p.2) ∧ w.ownsRow B T k v L.length (pc P)
theorem Ow.sp {T : TypeId} {B : Nat} {w : World} {v : Value} {L : List α} (h : Ow R k T B w v L) : Sp R k w v L := by
  obtain ⟨P, h1, h2, h3, h4⟩ := h
  exact ⟨P, h1, h2, h3, own_sl h4⟩
theorem Ow.below {T : TypeId} {B : Nat} {w w' : World} {v : Value} {L : List α} (hR : Mono R) (h : Ow R k T B w v L) (hb : Below w.heap.size w w') : Ow R k T B w' v L := by
  obtain ⟨P, h1, h2, h3, h4⟩ := h
  exact ⟨P, h1, h2, fun p hp => hR _ _ _ _ (h3 p hp) hb, own_below h4 hb⟩
theorem Ow.mono {T : TypeId} {B B' : Nat} {w : World} {v : Value} {L : List α} (h : Ow R k T B w v L) (hb : B' ≤ B) : Ow R k T B' w v L := by
  obtain ⟨P, h1, h2, h3, h4⟩ := h
  exact ⟨P, h1, h2, h3, own_mono h4 hb⟩
theorem Ow.nil {T : TypeId} {B : Nat} {w : World} : Ow R k T B w (.slice none 0 0) ([] : List α) := ⟨[], rfl, PK.nil, fun p hp => by simp at hp, World.ownsRow_nil _ _ _ _⟩
theorem Ow.shape {T : TypeId} {B : Nat} {w : World} {v : Value} {L : List α} (h : Ow R k T B w v L) : ∃ ao c, v = .slice ao L.length c ∧ L.length ≤ c ∧ c ≤ 9223372036854775807 := h.sp.shape
/-- What is known of an element's cells stays known where a row of type T grows. -/
def Grow (R : World → α → List Value → Prop) (T : TypeId) (k B : Nat) : Prop := ∀ (w w' : World) (a : α) (c : List Value) (u : Value) (m : Nat) (us : List Value), R w a c → w.ownsRow B T k u m us → w.grownBy w' u.ownBlock → R w' a c
/-- One element more, behind an append to the row. -/
theorem Ow.snoc {T : TypeId} {B n : Nat} {w w' : World} {v v' : Value} {L : List α} {a : α} {c : List Value} {P : List (α × List Value)} (hG : Grow R T k B) (h1 : P.map (·.1) = L) (h2 : PK k P) (h3 : ∀ p ∈ P, R w p.1 p.2) (h4 : w.ownsRow B T k v n (pc P)) (hn : n = L.length) (hg : w.grownBy w' v.ownBlock) (hown : w'.ownsRow B T k v' (n + 1) (pc P ++ c)) (hc : c.length = k) (ha : R w a c) : Ow R k T B w' v' (L ++ [a]) := by
  refine ⟨P ++ [(a, c)], by rw [List.map_append, h1]; rfl, h2.snoc hc, ?_, ?_⟩
  · intro p hp
    rcases List.mem_append.1 hp with h' | h'
    · exact hG _ _ _ _ _ _ _ (h3 p h') h4 hg
    · have : p = (a, c) := by simpa using h'
      rw [this]
      exact hG _ _ _ _ _ _ _ ha h4 hg
  · rw [← pc_snoc, List.length_append, ← hn]
    exact hown
end
section
variable {α : Type} {H : Type} {enc : TypeId × Value → H} {P : Program} {W : World} {base : Nat} {spare : Nat → Bool} {held : Bool} {R : World → α → List Value → Prop}
/-- A slice that came in, element by element. -/
theorem sp_of {t e : TypeId} {k fuel : Nat} {v : Value} {x : DataW H × List MemPlace} (inh : Inhabited α) (ht : P.underlying t = some (.slice e)) (hk : P.cellsOf e = k) (hpos : 0 < k)
    (hel : ∀ fuel cs x, DataW.trod enc P W base spare held fuel e cs = some x → cs.length = k → ∃ a, R W a cs)
    (h : DataW.trod enc P W base spare held fuel t [v] = some x) : ∃ L : List α, Sp R k W v L ∧ L.length ≤ 9223372036854775807 ∧ ((∀ n ∈ x.1.weights P t, n ≤ reachBytes) → L.length * P.bytesOf e ≤ reachBytes) := by
  rcases open_slice ht h with ⟨hcs, _⟩ | ⟨a, len, cap, m, n, D, Pl, hcs, hb, hl, hm, hmm, hx, hi'⟩
  · obtain rfl : v = .slice none 0 0 := by simpa using hcs
    exact ⟨[], Sp.nil, by simp, fun _ => by simp⟩
  · obtain rfl : v = .slice (some a) len cap := by simpa using hcs
    have hlm : len ≤ m := by rw [hmm]; split <;> omega
    have each : ∀ i, i < len → ∃ p : α × List Value, p.2.length = k ∧ R W p.1 p.2 ∧ ∀ j u, p.2[j]? = some u → W.cell? (a.add (i * k + j)) = some u := by
      intro i hlt
      obtain ⟨cs', hc, ht'⟩ := hi' i (by omega)
      rw [hk] at hc
      obtain ⟨_, hcl, hat⟩ := World.cells?_some hc
      obtain ⟨y, hy⟩ := hel _ _ _ ht' hcl
      refine ⟨(y, cs'), hcl, hy, fun j u hu => ?_⟩
      have hj : j < k := by
        have h9 : j < cs'.length := (List.getElem?_eq_some_iff.1 hu).1
        have h10 : cs'.length = k := hcl
        omega
      have h2 := hat j hj
      rw [add_add] at h2
      rw [h2]
      exact hu
    haveI : Inhabited (α × List Value) := ⟨(inh.default, [])⟩
    obtain ⟨Q, hQ⟩ := choose_lt each
    have hL : ((List.range len).map Q).length = len := by simp
    have hPK : PK k ((List.range len).map Q) := by
      intro p hp
      obtain ⟨i, hi, rfl⟩ := List.mem_map.1 hp
      exact (hQ i (by simpa using hi)).1
    refine ⟨((List.range len).map Q).map (·.1), ⟨(List.range len).map Q, rfl, hPK, ?_, some a, cap, ?_, ?_, hm, fun h => by simp at h, ?_, fun hn => ?_⟩, ?_, ?_⟩
    · intro p hp
      obtain ⟨i, hi, rfl⟩ := List.mem_map.1 hp
      exact (hQ i (by simpa using hi)).2.1
    · rw [List.length_map, hL]
    · rw [List.length_map, hL]; exact hl
    · rw [pc_len hPK, List.length_map, List.length_map, List.length_map]
    · rw [List.length_map, hL] at hn
      obtain ⟨u0, hu0⟩ : ∃ u, (Q 0).2[0]? = some u := ⟨_, List.getElem?_eq_getElem (by rw [(hQ 0 hn).1]; exact hpos)⟩
      have h0 := (hQ 0 hn).2.2 0 u0 hu0
      obtain ⟨b, off, spot⟩ := a
      have hs := World.cell?_spot h0
      simp [Addr.add] at hs
      subst hs
      refine ⟨b, off, rfl, fun i u hu => ?_⟩
      have hidx : i < len * k := by
        rcases Nat.lt_or_ge i (len * k) with h' | h'
        · exact h'
        · rw [List.getElem?_eq_none (by rw [pc_len hPK, hL]; exact h')] at hu; simp at hu
      have hq : i / k < len := Nat.div_lt_of_lt_mul (by rw [Nat.mul_comm]; exact hidx)
      have hr : i % k < k := Nat.mod_lt _ hpos
      have hdm : i / k * k + i % k = i := by rw [Nat.mul_comm]; exact Nat.div_add_mod i k
      have hp : ((List.range len).map Q)[i / k]? = some (Q (i / k)) := by simp [hq]
      rw [← hdm, pc_get hPK hp hr] at hu
      have := (hQ (i / k) hq).2.2 (i % k) u hu
      rw [addr_add, hdm] at this
      exact this
    · rw [List.length_map, hL]; unfold maxLen at hm; omega
    · intro hs
      rw [List.length_map, hL]
      have := hs ((((List.range len).map D).length + ((List.range (m - len)).map fun j => D (len + j)).length) * P.bytesOf e) (by rw [hx]; simp [DataW.weights, ht])
      refine Nat.le_trans (Nat.mul_le_mul_right _ ?_) this
      simp
end
theorem Sp.shapeN {α : Type} {R : World → α → List Value → Prop} {k n : Nat} {w : World} {v : Value} {L : List α} (h : Sp R k w v L) (hl : L.length = n) : ∃ ao c, v = .slice ao n c ∧ n ≤ c ∧ c ≤ 9223372036854775807 := by
  subst hl
  exact h.shape
theorem Sp.headN {α : Type} {R : World → α → List Value → Prop} {k n c : Nat} {ao : Option Addr} {w : World} {x : α} {L : List α} (h : Sp R k w (.slice ao n c) (x :: L)) :
    ∃ b off cs, ao = some ⟨b, off, none⟩ ∧ R w x cs ∧ cs.length = k ∧ ∀ j u, cs[j]? = some u → w.cell? ⟨b, off + j, none⟩ = some u := by
  obtain ⟨b, off, cs, h1, h2, h3, h4⟩ := h.get (i := 0) (a := x) rfl
  refine ⟨b, off, cs, h1, h2, h3, fun j u hu => ?_⟩
  have := h4 j u hu
  rwa [Nat.zero_mul, Nat.add_zero] at this
theorem Sp.weaken {α : Type} {R R' : World → α → List Value → Prop} {k : Nat} {w : World} {v : Value} {L : List α} (h : Sp R k w v L) (hw : ∀ a c, R w a c → R' w a c) : Sp R' k w v L := by
  obtain ⟨P, h1, h2, h3, h4⟩ := h
  exact ⟨P, h1, h2, fun p hp => hw _ _ (h3 p hp), h4⟩
theorem cons_of' {α : Type} {l : List α} {n : Nat} (h : l.length = n + 1) : ∃ x r, l = x :: r ∧ r.length = n := by
  cases l with
  | nil => simp at h
  | cons x r => exact ⟨x, r, rfl, by simpa using h⟩
/-- A slice's block is old, or bears another type than T. -/
def Apart (w : World) (B : Nat) (T : TypeId) (v : Value) : Prop := ∀ b, v.ownBlock = some b → (b < B ∧ b < w.heap.size) ∨ ∃ cs e fr, w.heap[b]? = some (.cells cs e fr) ∧ e ≠ T
theorem Apart.below {w w' : World} {B : Nat} {T : TypeId} {v : Value} (h : Apart w B T v) (hb : Below w.heap.size w w') : Apart w' B T v := by
  intro b hv
  rcases h b hv with h | ⟨cs, e, fr, h, hne⟩
  · exact Or.inl ⟨h.1, Nat.lt_of_lt_of_le h.2 hb.size⟩
  · exact Or.inr ⟨cs, e, fr, (hb.block b (Array.getElem?_eq_some_iff.1 h).1).trans h, hne⟩
theorem Apart.ne {w : World} {B k m : Nat} {T : TypeId} {u v : Value} {us : List Value} {b : Nat} (h : Apart w B T v) (ho : w.ownsRow B T k u m us) (hv : v.ownBlock = some b) : u.ownBlock ≠ some b := by
  intro hu
  rcases h b hv with h | ⟨cs, e, fr, h, hne⟩
  · have := (ho.lt b hu).1
    omega
  · exact own_block_ne ho h (fun e' => hne e'.symm) hu
theorem Apart.grown {w w' : World} {B k m : Nat} {T : TypeId} {u v : Value} {us : List Value} (h : Apart w B T v) (ho : w.ownsRow B T k u m us) (hg : w.grownBy w' u.ownBlock) : Apart w' B T v := by
  intro b hv
  have hne := h.ne ho hv
  rcases h b hv with h | ⟨cs, e, fr, h, hne'⟩
  · exact Or.inl ⟨h.1, Nat.lt_of_lt_of_le h.2 hg.size⟩
  · exact Or.inr ⟨cs, e, fr, (hg.block b (Array.getElem?_eq_some_iff.1 h).1 (fun e' => hne e'.symm)).trans h, hne'⟩
/-- A slice that is apart from a row that grows reads as before. -/
theorem Sl.grownA {w w' : World} {size n B k m : Nat} {T : TypeId} {v u : Value} {xs us : List Value} (h : Sl w size v n xs) (ha : Apart w B T v) (ho : w.ownsRow B T k u m us) (hg : w.grownBy w' u.ownBlock) : Sl w' size v n xs := by
  obtain ⟨ao, cap, rfl, h2, h3, h4, h5, h6⟩ := h
  refine ⟨ao, cap, rfl, h2, h3, h4, h5, fun hn => ?_⟩
  obtain ⟨b', off, rfl, hc⟩ := h6 hn
  refine ⟨b', off, rfl, fun i u hu => ?_⟩
  exact hg.cell (hc i u hu) (fun e => ha.ne ho (b := b') rfl e.symm)
theorem Apart.own {w : World} {B B' size n : Nat} {T e : TypeId} {v : Value} {xs : List Value} (h : w.ownsRow B' e size v n xs) (hne : e ≠ T) : Apart w B T v := by
  intro b hv
  rcases h.2 with ⟨rfl, _⟩ | ⟨g, cap, cur, rfl, _, hg, _⟩
  · simp [Value.ownBlock] at hv
  · have : g = b := by simpa [Value.ownBlock] using hv
    subst this
    exact Or.inr ⟨_, _, _, hg, hne⟩
end Go.Gh
/-
  Slices of whatever elements that came in, under the bound on the bulk.
-/
namespace Go.Gh
open Go.RowKit Go.ChangeShapes Go.WideShapes Go.ChangeAt Go.Joins Go.Deep Go.Proofs.YtlfhcjhbnakamaaGreatDoor
set_option linter.unusedVariables false
section
variable {α : Type} {H : Type} {enc : TypeId × Value → H} {P : Program} {W : World} {base : Nat} {spare : Nat → Bool} {held : Bool} {R : World → α → List Value → Prop}
theorem sp_ofB {t e : TypeId} {k fuel M : Nat} {v : Value} {x : DataW H × List MemPlace} (inh : Inhabited α) (ht : P.underlying t = some (.slice e)) (hk : P.cellsOf e = k) (hpos : 0 < k)
    (hel : ∀ fuel cs x, DataW.trod enc P W base spare held fuel e cs = some x → cs.length = k → Rows.uptoBulk x.1 ≤ M → ∃ a, R W a cs)
    (h : DataW.trod enc P W base spare held fuel t [v] = some x) (hbk : Rows.uptoBulk x.1 ≤ M) : ∃ L : List α, Sp R k W v L ∧ L.length ≤ M := by
  rcases open_slice ht h with ⟨hcs, _⟩ | ⟨a, len, cap, m, n, D, Pl, hcs, hb, hl, hm, hmm, hx, hi'⟩
  · obtain rfl : v = .slice none 0 0 := by simpa using hcs
    exact ⟨[], Sp.nil, Nat.zero_le _⟩
  · obtain rfl : v = .slice (some a) len cap := by simpa using hcs
    have hlm : len ≤ m := by rw [hmm]; split <;> omega
    rw [hx] at hbk
    simp only [Rows.uptoBulk] at hbk
    have hlen : len ≤ M := by
      have := bulk_len ((List.range len).map D)
      rw [List.length_map, List.length_range] at this
      omega
    have each : ∀ i, i < len → ∃ p : α × List Value, p.2.length = k ∧ R W p.1 p.2 ∧ ∀ j u, p.2[j]? = some u → W.cell? (a.add (i * k + j)) = some u := by
      intro i hlt
      obtain ⟨cs', hc, ht'⟩ := hi' i (by omega)
      rw [hk] at hc
      obtain ⟨_, hcl, hat⟩ := World.cells?_some hc
      have hbi : Rows.uptoBulk (D i) ≤ M := by
        have h1 : D i ∈ (List.range len).map D := List.mem_map.2 ⟨i, by simpa using hlt, rfl⟩
        have := bulk_part h1
        omega
      obtain ⟨y, hy⟩ := hel _ _ _ ht' hcl hbi
      refine ⟨(y, cs'), hcl, hy, fun j u hu => ?_⟩
      have hj : j < k := by
        have h9 : j < cs'.length := (List.getElem?_eq_some_iff.1 hu).1
        have h10 : cs'.length = k := hcl
        omega
      have h2 := hat j hj
      rw [add_add] at h2
      rw [h2]
      exact hu
    haveI : Inhabited (α × List Value) := ⟨(inh.default, [])⟩
    obtain ⟨Q, hQ⟩ := choose_lt each
    have hL : ((List.range len).map Q).length = len := by simp
    have hPK : PK k ((List.range len).map Q) := by
      intro p hp
      obtain ⟨i, hi, rfl⟩ := List.mem_map.1 hp
      exact (hQ i (by simpa using hi)).1
    refine ⟨((List.range len).map Q).map (·.1), ⟨(List.range len).map Q, rfl, hPK, ?_, some a, cap, ?_, ?_, hm, fun h => by simp at h, ?_, fun hn => ?_⟩, ?_⟩
    · intro p hp
      obtain ⟨i, hi, rfl⟩ := List.mem_map.1 hp
      exact (hQ i (by simpa using hi)).2.1
    · rw [List.length_map, hL]
    · rw [List.length_map, hL]; exact hl
    · rw [pc_len hPK, List.length_map, List.length_map, List.length_map]
    · rw [List.length_map, hL] at hn
      obtain ⟨u0, hu0⟩ : ∃ u, (Q 0).2[0]? = some u := ⟨_, List.getElem?_eq_getElem (by rw [(hQ 0 hn).1]; exact hpos)⟩
      have h0 := (hQ 0 hn).2.2 0 u0 hu0
      obtain ⟨b, off, spot⟩ := a
      have hs := World.cell?_spot h0
      simp [Addr.add] at hs
      subst hs
      refine ⟨b, off, rfl, fun i u hu => ?_⟩
      have hidx : i < len * k := by
        rcases Nat.lt_or_ge i (len * k) with h' | h'
        · exact h'
        · rw [List.getElem?_eq_none (by rw [pc_len hPK, hL]; exact h')] at hu; simp at hu
      have hq : i / k < len := Nat.div_lt_of_lt_mul (by rw [Nat.mul_comm]; exact hidx)
      have hr : i % k < k := Nat.mod_lt _ hpos
      have hdm : i / k * k + i % k = i := by rw [Nat.mul_comm]; exact Nat.div_add_mod i k
      have hp : ((List.range len).map Q)[i / k]? = some (Q (i / k)) := by simp [hq]
      rw [← hdm, pc_get hPK hp hr] at hu
      have := (hQ (i / k) hq).2.2 (i % k) u hu
      rw [addr_add, hdm] at this
      exact this
    · rw [List.length_map, hL]; exact hlen
/-- The bulk of a struct's part. -/
theorem bulk_field {xs : List (DataW H × List MemPlace)} {y : DataW H × List MemPlace} {i M : Nat} (h : Rows.uptoBulk (DataW.agg (xs.map (·.1))) ≤ M) (hy : xs[i]? = some y) : Rows.uptoBulk y.1 ≤ M := by
  simp only [Rows.uptoBulk] at h
  have h1 : y.1 ∈ xs.map (·.1) := List.mem_map.2 ⟨y, List.mem_of_getElem? hy, rfl⟩
  have := bulk_part h1
  omega
end
end Go.Gh
/-
  Labels and matches, their texts, and how these are read: as plain functions.
-/
namespace Go.Gh
set_option linter.unusedVariables false
set_option linter.unusedSimpArgs false
abbrev By := List UInt8
/-- A match: its kind, its name, its value. -/
structure Mt where
  kd : Int
  nm : By
  vl : By
/-- A label. -/
structure Lb where
  nm : By
  vl : By
def escB (b : UInt8) : By := if b = 92 then [92, 92] else if b = 34 then [92, 34] else if b = 10 then [92, 110] else [b]
def esc (v : By) : By := v.flatMap escB
def quo (v : By) : By := 34 :: (esc v ++ [34])
def sgn (k : Int) : By := if k = 1 then [61] else if k = 2 then [33, 61] else if k = 3 then [61, 94] else if k = 4 then [61, 126] else []
def mtx (m : Mt) : By := m.nm ++ (sgn m.kd ++ quo m.vl)
def commas : List By → By
  | [] => []
  | [x] => x
  | x :: y :: r => x ++ 44 :: commas (y :: r)
def textM (ms : List Mt) : By := 123 :: (commas (ms.map mtx) ++ [125])
def asM (l : List Lb) : List Mt := l.map fun x => ⟨1, x.nm, x.vl⟩
def asL (m : List Mt) : List Lb := m.map fun x => ⟨x.nm, x.vl⟩
theorem asL_asM (l : List Lb) : asL (asM l) = l := by
  unfold asL asM
  rw [List.map_map]
  exact List.map_id' l
/-- What a name may hold. -/
def nmB (c : UInt8) : Bool := (decide (97 ≤ c) && decide (c ≤ 122)) || (decide (48 ≤ c) && decide (c ≤ 57)) || decide (c = 95)
def digB (c : UInt8) : Bool := decide (48 ≤ c) && decide (c ≤ 57)
def nameOk (s : By) : Bool := match s with
  | [] => false
  | c :: r => decide (r.length + 1 ≤ 20) && !digB c && nmB c && r.all nmB
def goM : List Mt → Int
  | [] => 0
  | x :: r => if x.kd < 1 ∨ 4 < x.kd then 1 else if nameOk x.nm = false then 4 else if 40 < x.vl.length then 2 else goM r
def matchF (m : List Mt) : Int := if 10 < m.length then 2 else goM m
/-- Is the order wrong? -/
def badO (p : Option By) (n : By) : Bool := match p with
  | none => false
  | some q => !decide (q < n)
def goL : Option By → List Lb → Int
  | _, [] => 0
  | p, x :: r => if nameOk x.nm = false then 4 else if badO p x.nm = true then 5 else if 40 < x.vl.length then 2 else goL (some x.nm) r
def labelF (l : List Lb) : Int := if 10 < l.length then 2 else goL none l
/-- Out of quotes, behind the first. -/
def unq : By → By → Option (By × By)
  | [], _ => none
  | b :: r, acc => if b = 34 then some (acc, r) else if b = 92 then (match r with | [] => none | c :: r' => unq r' (acc ++ [if c = 110 then 10 else c])) else unq r (acc ++ [b])
theorem unq_cons (b : UInt8) (r acc : By) : unq (b :: r) acc = if b = 34 then some (acc, r) else if b = 92 then (match r with | [] => none | c :: r' => unq r' (acc ++ [if c = 110 then 10 else c])) else unq r (acc ++ [b]) := by
  rw [unq.eq_def]
  rfl
theorem unq_esc : ∀ (v r acc : By), unq (esc v ++ 34 :: r) acc = some (acc ++ v, r)
  | [], r, acc => by
    show unq (34 :: r) acc = _
    rw [unq_cons, if_pos rfl, List.append_nil]
  | b :: v, r, acc => by
    have ih := fun acc => unq_esc v r acc
    have e : esc (b :: v) = escB b ++ esc v := rfl
    rw [e, List.append_assoc]
    unfold escB
    by_cases h1 : b = 92
    · subst h1
      rw [if_pos rfl]
      show unq (92 :: 92 :: (esc v ++ 34 :: r)) acc = _
      rw [unq_cons, if_neg (by decide), if_pos rfl]
      try dsimp only
      rw [if_neg (by decide), ih, List.append_assoc]
      rfl
    · rw [if_neg h1]
      by_cases h2 : b = 34
      · subst h2
        rw [if_pos rfl]
        show unq (92 :: 34 :: (esc v ++ 34 :: r)) acc = _
        rw [unq_cons, if_neg (by decide), if_pos rfl]
        try dsimp only
        rw [if_neg (by decide), ih, List.append_assoc]
        rfl
      · rw [if_neg h2]
        by_cases h3 : b = 10
        · subst h3
          rw [if_pos rfl]
          show unq (92 :: 110 :: (esc v ++ 34 :: r)) acc = _
          rw [unq_cons, if_neg (by decide), if_pos rfl]
          try dsimp only
          rw [if_pos rfl, ih, List.append_assoc]
          rfl
        · rw [if_neg h3]
          show unq (b :: (esc v ++ 34 :: r)) acc = _
          rw [unq_cons, if_neg h2, if_neg h1, ih, List.append_assoc]
          rfl
/-- Where a name ends. -/
def opB (b : UInt8) : Bool := decide (b = 33) || decide (b = 61)
/-- The sign at the front, with the quote behind it. -/
def sgnAt (t : By) : Option (Int × By) :=
  match t with
  | 61 :: 34 :: r => some (1, r)
  | 33 :: 61 :: 34 :: r => some (2, r)
  | 61 :: 94 :: 34 :: r => some (3, r)
  | 61 :: 126 :: 34 :: r => some (4, r)
  | _ => none
/-- A match at the front. -/
def oneP (s : By) : Option (Mt × By) :=
  match sgnAt (s.dropWhile fun b => !opB b) with
  | none => none
  | some (k, r) => match unq r [] with
    | none => none
    | some (v, r') => some (⟨k, s.takeWhile fun b => !opB b, v⟩, r')
theorem nmB_op {c : UInt8} (h : nmB c = true) : opB c = false := by
  unfold nmB at h
  unfold opB
  simp only [Bool.or_eq_true, Bool.and_eq_true, decide_eq_true_eq] at h
  simp only [Bool.or_eq_false_iff, decide_eq_false_iff_not]
  constructor
  · rintro rfl
    revert h
    decide
  · rintro rfl
    revert h
    decide
theorem nameOk_all {s : By} (h : nameOk s = true) : s ≠ [] ∧ s.length ≤ 20 ∧ ∀ c ∈ s, nmB c = true := by
  match s, h with
  | c :: r, h =>
    unfold nameOk at h
    simp only [Bool.and_eq_true, decide_eq_true_eq, List.all_eq_true] at h
    refine ⟨by simp, by simpa using h.1.1.1, fun d hd => ?_⟩
    rcases List.mem_cons.1 hd with rfl | hd
    · exact h.1.2
    · exact h.2 d hd
theorem span_op : ∀ (s t : By), (∀ c ∈ s, opB c = false) → (∀ b r, t = b :: r → opB b = true) → (s ++ t).takeWhile (fun b => !opB b) = s ∧ (s ++ t).dropWhile (fun b => !opB b) = t
  | [], [], _, _ => ⟨rfl, rfl⟩
  | [], b :: r, _, h => by
    have := h b r rfl
    simp [List.takeWhile_cons, List.dropWhile_cons, this]
  | c :: s, t, h1, h2 => by
    obtain ⟨i1, i2⟩ := span_op s t (fun d hd => h1 d (by simp [hd])) h2
    have := h1 c (by simp)
    rw [List.cons_append, List.takeWhile_cons, List.dropWhile_cons, this]
    simp only [Bool.not_false, if_true]
    exact ⟨by rw [i1], i2⟩
theorem sgn_at {k : Int} (h1 : 1 ≤ k) (h2 : k ≤ 4) (r : By) : sgnAt (sgn k ++ 34 :: r) = some (k, r) ∧ ∃ b t, sgn k ++ 34 :: r = b :: t ∧ opB b = true := by
  have : k = 1 ∨ k = 2 ∨ k = 3 ∨ k = 4 := by omega
  rcases this with rfl | rfl | rfl | rfl
  · exact ⟨rfl, _, _, rfl, by decide⟩
  · exact ⟨rfl, _, _, rfl, by decide⟩
  · exact ⟨rfl, _, _, rfl, by decide⟩
  · exact ⟨rfl, _, _, rfl, by decide⟩
/-- A match that is right is read as it was written. -/
theorem one_mtx {m : Mt} (h1 : 1 ≤ m.kd) (h2 : m.kd ≤ 4) (hn : nameOk m.nm = true) (r : By) : oneP (mtx m ++ r) = some (m, r) := by
  obtain ⟨hne, -, hall⟩ := nameOk_all hn
  have e : mtx m ++ r = m.nm ++ (sgn m.kd ++ 34 :: (esc m.vl ++ 34 :: r)) := by
    unfold mtx quo
    simp [List.append_assoc]
  obtain ⟨s1, b, t, s2, s3⟩ := sgn_at h1 h2 (esc m.vl ++ 34 :: r)
  obtain ⟨p1, p2⟩ := span_op m.nm (sgn m.kd ++ 34 :: (esc m.vl ++ 34 :: r)) (fun c hc => nmB_op (hall c hc)) (fun b' r' e' => by
    rw [s2] at e'
    injection e' with e1 e2
    rw [← e1]; exact s3)
  unfold oneP
  rw [e, p1, p2, s1]
  dsimp only
  rw [unq_esc]
  rfl
def trimC (t : By) : By := match t with
  | 44 :: r => r
  | t => t
/-- The program's reading, by steps. -/
inductive RdR : By → List Mt → Option (List Mt) → Prop
  | done (t out) : (t = [] ∨ t = [125]) → RdR t out (some out)
  | bad (t out) : ¬ (t = [] ∨ t = [125]) → oneP t = none → RdR t out none
  | more (t out m b res) : ¬ (t = [] ∨ t = [125]) → oneP t = some (m, b) → RdR (trimC b) (out ++ [m]) res → RdR t out res
theorem goM_zero : ∀ {l : List Mt}, goM l = 0 → ∀ m ∈ l, 1 ≤ m.kd ∧ m.kd ≤ 4 ∧ nameOk m.nm = true ∧ m.vl.length ≤ 40
  | [], _, m, hm => by simp at hm
  | x :: r, h, m, hm => by
    rw [goM] at h
    split at h
    · exact absurd h (by decide)
    rename_i h1
    split at h
    · exact absurd h (by decide)
    rename_i h2
    split at h
    · exact absurd h (by decide)
    rename_i h3
    have h1 := not_or.1 h1
    rcases List.mem_cons.1 hm with rfl | hm
    · exact ⟨by omega, by omega, by simpa using h2, by omega⟩
    · exact goM_zero h m hm
theorem matchF_zero {l : List Mt} (h : matchF l = 0) : l.length ≤ 10 ∧ ∀ m ∈ l, 1 ≤ m.kd ∧ m.kd ≤ 4 ∧ nameOk m.nm = true ∧ m.vl.length ≤ 40 := by
  unfold matchF at h
  split at h
  · exact absurd h (by decide)
  · rename_i hl
    exact ⟨by omega, goM_zero h⟩
theorem mtx_head {m : Mt} (hn : nameOk m.nm = true) : ∃ c r, mtx m = c :: r ∧ nmB c = true := by
  obtain ⟨hne, -, hall⟩ := nameOk_all hn
  match hm : m.nm, hne with
  | c :: r, _ =>
    refine ⟨c, r ++ (sgn m.kd ++ quo m.vl), by unfold mtx; rw [hm]; rfl, hall c (by rw [hm]; simp)⟩
/-- What stands behind the first of matches. -/
def tailC : List Mt → By
  | [] => [125]
  | y :: r => 44 :: (commas ((y :: r).map mtx) ++ [125])
theorem commas_cons (m : Mt) (r : List Mt) : commas ((m :: r).map mtx) ++ [125] = mtx m ++ tailC r := by
  cases r with
  | nil => rfl
  | cons y r =>
    show (mtx m ++ 44 :: commas (mtx y :: r.map mtx)) ++ [125] = mtx m ++ 44 :: (commas (mtx y :: r.map mtx) ++ [125])
    simp [List.append_assoc]
theorem not_end {m : Mt} (hn : nameOk m.nm = true) (t : By) : ¬ (mtx m ++ t = [] ∨ mtx m ++ t = [125]) := by
  obtain ⟨c, r, e, hc⟩ := mtx_head hn
  rw [e]
  rintro (h | h)
  · simp at h
  · have : c = 125 := by simpa using congrArg List.head? h
    rw [this] at hc
    revert hc
    decide
/-- The text of right matches is read as them. -/
theorem rd_text : ∀ (l out : List Mt) (res : Option (List Mt)), (∀ m ∈ l, 1 ≤ m.kd ∧ m.kd ≤ 4 ∧ nameOk m.nm = true ∧ m.vl.length ≤ 40) → RdR (commas (l.map mtx) ++ [125]) out res → res = some (out ++ l)
  | [], out, res, _, h => by
    have h' : RdR [125] out res := h
    cases h' with
    | done t out hd => rw [List.append_nil]
    | bad t out hd h1 => exact absurd (Or.inr rfl) hd
    | more t out m b res hd h1 h2 => exact absurd (Or.inr rfl) hd
  | m :: r, out, res, hl, h => by
    obtain ⟨h1, h2, h3, -⟩ := hl m (by simp)
    rw [commas_cons] at h
    have hne := not_end h3 (tailC r)
    have ho := one_mtx h1 h2 h3 (tailC r)
    generalize hT : mtx m ++ tailC r = T at h hne ho
    cases h with
    | done t out hd => exact absurd hd hne
    | bad t out hd hb => rw [ho] at hb; simp at hb
    | more t out m' b res hd hb hr =>
      rw [ho] at hb
      injection hb with hb
      injection hb with e1 e2
      subst e1
      subst e2
      have e : trimC (tailC r) = commas (r.map mtx) ++ [125] := by cases r <;> rfl
      rw [e] at hr
      rw [rd_text r (out ++ [m]) res (fun x hx => hl x (by simp [hx])) hr, List.append_assoc]
      rfl
open Classical in
/-- The matches of a text. -/
noncomputable def rmF (s : By) : Option (List Mt) := if h : ∃ ms, matchF ms = 0 ∧ textM ms = s then some h.choose else none
def Right (l : List Mt) : Prop := ∀ m ∈ l, 1 ≤ m.kd ∧ m.kd ≤ 4 ∧ nameOk m.nm = true ∧ m.vl.length ≤ 40
/-- Two lists of right matches with one text are one. -/
theorem text_inj : ∀ (a b : List Mt), Right a → Right b → commas (a.map mtx) ++ [125] = commas (b.map mtx) ++ [125] → a = b
  | [], [], _, _, _ => rfl
  | [], m :: r, _, hb, h => by
    rw [commas_cons] at h
    exact absurd (Or.inr h.symm) (not_end (hb m (by simp)).2.2.1 (tailC r))
  | m :: r, [], ha, _, h => by
    rw [commas_cons] at h
    exact absurd (Or.inr h) (not_end (ha m (by simp)).2.2.1 (tailC r))
  | m :: r, m' :: r', ha, hb, h => by
    rw [commas_cons, commas_cons] at h
    have h1 := ha m (by simp)
    have h2 := hb m' (by simp)
    have o1 := one_mtx h1.1 h1.2.1 h1.2.2.1 (tailC r)
    have o2 := one_mtx h2.1 h2.2.1 h2.2.2.1 (tailC r')
    rw [h, o2] at o1
    injection o1 with o1
    injection o1 with e1 e2
    subst e1
    have : r = r' := by
      cases r with
      | nil => cases r' with
        | nil => rfl
        | cons y s => exact absurd (congrArg List.head? e2) (by simp [tailC])
      | cons x q => cases r' with
        | nil => exact absurd (congrArg List.head? e2) (by simp [tailC])
        | cons y s =>
          unfold tailC at e2
          injection e2 with _ e3
          exact text_inj (x :: q) (y :: s) (fun z hz => ha z (by simp [hz])) (fun z hz => hb z (by simp [hz])) e3.symm
    rw [this]
theorem rm_some {s : By} {ms : List Mt} (h1 : matchF ms = 0) (h2 : textM ms = s) : rmF s = some ms := by
  unfold rmF
  have hp : ∃ ms, matchF ms = 0 ∧ textM ms = s := ⟨ms, h1, h2⟩
  rw [dif_pos hp]
  obtain ⟨c1, c2⟩ := hp.choose_spec
  have : textM hp.choose = textM ms := c2.trans h2.symm
  unfold textM at this
  injection this with _ this
  rw [text_inj _ _ (matchF_zero c1).2 (matchF_zero h1).2 this]
/-- What the program's reading comes to. -/
theorem rm_prog {s t : By} {res : Option (List Mt)} (hs : s = 123 :: t) (hr : RdR t [] res) : (∃ ms, res = some ms ∧ matchF ms = 0 ∧ textM ms = s ∧ rmF s = some ms) ∨ ((∀ ms, res = some ms → ¬ (matchF ms = 0 ∧ textM ms = s)) ∧ rmF s = none) := by
  unfold rmF
  by_cases h : ∃ ms, matchF ms = 0 ∧ textM ms = s
  · rw [dif_pos h]
    obtain ⟨c1, c2⟩ := h.choose_spec
    generalize h.choose = ms at c1 c2
    have et : commas (ms.map mtx) ++ [125] = t := by
      unfold textM at c2
      rw [hs] at c2
      injection c2
    rw [← et] at hr
    have e1 := rd_text ms [] res (matchF_zero c1).2 hr
    rw [List.nil_append] at e1
    exact Or.inl ⟨ms, e1, c1, c2, rfl⟩
  · rw [dif_neg h]
    exact Or.inr ⟨fun ms _ hm => h ⟨ms, hm⟩, rfl⟩
theorem rm_none {s : By} (h : ∀ t, s ≠ 123 :: t) : rmF s = none := by
  unfold rmF
  rw [dif_neg]
  rintro ⟨ms, -, hm⟩
  unfold textM at hm
  exact h _ hm.symm
/-- The document's reading, by steps: the matches, and what is behind them. -/
inductive RrR : By → List Mt → Option (List Mt × By) → Prop
  | out (l) : RrR [] l none
  | close (r l) : RrR (125 :: r) l (some (l, r))
  | comma (b r l) : b ≠ 125 → l ≠ [] → b ≠ 44 → RrR (b :: r) l none
  | bad (b r t l) : b ≠ 125 → (l = [] ∧ t = b :: r ∨ l ≠ [] ∧ b = 44 ∧ t = r) → oneP t = none → RrR (b :: r) l none
  | more (b r t l m t' res) : b ≠ 125 → (l = [] ∧ t = b :: r ∨ l ≠ [] ∧ b = 44 ∧ t = r) → oneP t = some (m, t') → RrR t' (l ++ [m]) res → RrR (b :: r) l res
/-- The document reads the text of right matches as them, with whatever behind. -/
def tailR (r : List Mt) (z : By) : By := match r with
  | [] => 125 :: z
  | y :: r => 44 :: (commas ((y :: r).map mtx) ++ 125 :: z)
theorem commas_consR (m : Mt) (r : List Mt) (z : By) : commas ((m :: r).map mtx) ++ 125 :: z = mtx m ++ tailR r z := by
  cases r with
  | nil => rfl
  | cons y r =>
    show (mtx m ++ 44 :: commas (mtx y :: r.map mtx)) ++ 125 :: z = mtx m ++ 44 :: (commas (mtx y :: r.map mtx) ++ 125 :: z)
    simp [List.append_assoc]
theorem rr_tail : ∀ (r out : List Mt) (z : By) (res : Option (List Mt × By)), out ≠ [] → (∀ m ∈ r, 1 ≤ m.kd ∧ m.kd ≤ 4 ∧ nameOk m.nm = true ∧ m.vl.length ≤ 40) → RrR (tailR r z) out res → res = some (out ++ r, z)
  | [], out, z, res, ho, _, h => by
    have h' : RrR (125 :: z) out res := h
    cases h' with
    | close r l => rw [List.append_nil]
    | comma b r l hb => exact absurd rfl hb
    | bad b r t l hb => exact absurd rfl hb
    | more b r t l m t' res hb => exact absurd rfl hb
  | m :: r, out, z, res, ho, hl, h => by
    obtain ⟨h1, h2, h3, -⟩ := hl m (by simp)
    have h' : RrR (44 :: (commas ((m :: r).map mtx) ++ 125 :: z)) out res := h
    rw [commas_consR] at h'
    have hone := one_mtx h1 h2 h3 (tailR r z)
    generalize hT : mtx m ++ tailR r z = T at h' hone
    cases h' with
    | comma b r' l hb hl0 hc => exact absurd rfl hc
    | bad b r' t l hb ht hn =>
      rcases ht with ⟨h0, -⟩ | ⟨-, -, rfl⟩
      · exact absurd h0 ho
      · rw [hone] at hn; simp at hn
    | more b r' t l m' t' res hb ht hn hr =>
      rcases ht with ⟨h0, -⟩ | ⟨-, -, rfl⟩
      · exact absurd h0 ho
      · rw [hone] at hn
        injection hn with hn
        injection hn with e1 e2
        subst e1
        subst e2
        rw [rr_tail r (out ++ [m]) z res (by simp) (fun x hx => hl x (by simp [hx])) hr, List.append_assoc]
        rfl
theorem rr_text (l : List Mt) (z : By) (res : Option (List Mt × By)) (hl : ∀ m ∈ l, 1 ≤ m.kd ∧ m.kd ≤ 4 ∧ nameOk m.nm = true ∧ m.vl.length ≤ 40) (h : RrR (commas (l.map mtx) ++ 125 :: z) [] res) : res = some (l, z) := by
  cases l with
  | nil =>
    have h' : RrR (125 :: z) [] res := h
    cases h' with
    | close r l => rfl
    | comma b r l hb => exact absurd rfl hb
    | bad b r t l hb => exact absurd rfl hb
    | more b r t l m t' res hb => exact absurd rfl hb
  | cons m r =>
    obtain ⟨h1, h2, h3, -⟩ := hl m (by simp)
    rw [commas_consR] at h
    have hone := one_mtx h1 h2 h3 (tailR r z)
    obtain ⟨c, rr, e, hc⟩ := mtx_head h3
    have hT : mtx m ++ tailR r z = c :: (rr ++ tailR r z) := by rw [e]; rfl
    rw [hT] at h hone
    have hc125 : c ≠ 125 := by
      rintro rfl
      revert hc
      decide
    cases h with
    | close r l => exact absurd rfl hc125
    | comma b r' l hb hl0 => exact absurd rfl hl0
    | bad b r' t l hb ht hn =>
      rcases ht with ⟨-, rfl⟩ | ⟨h0, -⟩
      · rw [hone] at hn; simp at hn
      · exact absurd rfl h0
    | more b r' t l m' t' res hb ht hn hr =>
      rcases ht with ⟨-, rfl⟩ | ⟨h0, -⟩
      · rw [hone] at hn
        injection hn with hn
        injection hn with e1 e2
        subst e1
        subst e2
        rw [rr_tail r ([] ++ [m]) z res (by simp) (fun x hx => hl x (by simp [hx])) hr]
        rfl
      · exact absurd rfl h0
/-- What the document's reading comes to. -/
theorem rm_ref {s t : By} {res : Option (List Mt × By)} (hs : s = 123 :: t) (hr : RrR t [] res) : (∃ ms, res = some (ms, []) ∧ matchF ms = 0 ∧ textM ms = s ∧ rmF s = some ms) ∨ ((∀ ms, res = some (ms, []) → ¬ (matchF ms = 0 ∧ textM ms = s)) ∧ rmF s = none) := by
  unfold rmF
  by_cases h : ∃ ms, matchF ms = 0 ∧ textM ms = s
  · rw [dif_pos h]
    obtain ⟨c1, c2⟩ := h.choose_spec
    generalize h.choose = ms at c1 c2
    have et : commas (ms.map mtx) ++ 125 :: [] = t := by
      unfold textM at c2
      rw [hs] at c2
      injection c2
    rw [← et] at hr
    exact Or.inl ⟨ms, rr_text ms [] res (matchF_zero c1).2 hr, c1, c2, rfl⟩
  · rw [dif_neg h]
    exact Or.inr ⟨fun ms _ hm => h ⟨ms, hm⟩, rfl⟩
theorem goL_cons (p : Option By) (x : Lb) (r : List Lb) : goL p (x :: r) = if nameOk x.nm = false then 4 else if badO p x.nm = true then 5 else if 40 < x.vl.length then 2 else goL (some x.nm) r := by
  rw [goL.eq_def]
/-- The labels of a text. -/
theorem goL_match : ∀ {l : List Lb} {p : Option By}, goL p l = 0 → goM (asM l) = 0
  | [], _, _ => rfl
  | x :: r, p, h => by
    rw [goL_cons] at h
    split at h
    · exact absurd h (by decide)
    rename_i h1
    split at h
    · exact absurd h (by decide)
    split at h
    · exact absurd h (by decide)
    rename_i h3
    show goM (⟨1, x.nm, x.vl⟩ :: asM r) = 0
    rw [goM, if_neg (show ¬ ((1 : Int) < 1 ∨ (4 : Int) < 1) by decide), if_neg h1, if_neg h3]
    exact goL_match h
theorem labelF_match {l : List Lb} (h : labelF l = 0) : matchF (asM l) = 0 := by
  unfold labelF at h
  unfold matchF
  have hl : (asM l).length = l.length := by unfold asM; rw [List.length_map]
  split at h
  · exact absurd h (by decide)
  · rename_i h1
    rw [hl, if_neg h1]
    exact goL_match h
open Classical in
noncomputable def lbF (s : By) : Option (List Lb) := match rmF s with
  | none => none
  | some ms => if labelF (asL ms) = 0 ∧ textM (asM (asL ms)) = s then some (asL ms) else none
/-- All of the kind 'is'. -/
def allIs (ms : List Mt) : Prop := ∀ m ∈ ms, m.kd = 1
theorem allIs_as : ∀ {ms : List Mt}, allIs ms → asM (asL ms) = ms
  | [], _ => rfl
  | m :: ms, h => by
    have ih := allIs_as (ms := ms) (fun x hx => h x (by simp [hx]))
    have hm := h m (by simp)
    show ⟨1, m.nm, m.vl⟩ :: asM (asL ms) = m :: ms
    rw [ih]
    cases m
    simp at hm
    simp [hm]
open Classical in
/-- The document's way to the labels. -/
theorem lb_ref {s : By} {ms : List Mt} (hm : rmF s = some ms) : lbF s = if (allIs ms ∧ labelF (asL ms) = 0) then some (asL ms) else none := by
  unfold lbF
  rw [hm]
  dsimp only
  have hspec : matchF ms = 0 ∧ textM ms = s := by
    unfold rmF at hm
    split at hm
    · rename_i h
      injection hm with hm
      rw [← hm]
      exact h.choose_spec
    · simp at hm
  by_cases h : allIs ms ∧ labelF (asL ms) = 0
  · rw [if_pos h, if_pos ⟨h.2, by rw [allIs_as h.1]; exact hspec.2⟩]
  · rw [if_neg h, if_neg]
    rintro ⟨h1, h2⟩
    have e : rmF s = some (asM (asL ms)) := rm_some (labelF_match h1) h2
    rw [hm] at e
    injection e with e
    refine h ⟨fun m hm => ?_, h1⟩
    rw [e] at hm
    unfold asM at hm
    obtain ⟨x, -, rfl⟩ := List.mem_map.1 hm
    rfl
end Go.Gh
