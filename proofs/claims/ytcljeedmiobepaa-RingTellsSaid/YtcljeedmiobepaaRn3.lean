/-
  Words shared by the walks, part six: append of whatever slice (nil too) to a row that is not empty; one cell of a row written over.
-/
import Derived.Test.YtcljeedmiobepaaRn2
import Derived.Laws.AppendOwnNone
namespace Go.Gh
open Go.RowKit
set_option linter.unusedVariables false

theorem run_append_any {P : Program} {W : World} {B : Nat} {t ty e : TypeId} {size bytes n m c : Nat} {ao : Option Addr} {v : Value} {xs news : List Value} (el : Elem P t e size bytes) (hown : W.ownsRow B e size v n xs) (hx : Sl W size (.slice ao m c) m news) (h1 : ∀ u ∈ news, u.oneCell' = true)
    (hn : 0 < n) (h47 : (n + m) * bytes ≤ 140737488355328) (h63 : n + m ≤ 9223372036854775807) (hB : B ≤ W.heap.size) :
    ∃ g cap w', (Builtin.append_ #[t, t] ty #[v, .slice ao m c]).run P W = .ok (.slice (some ⟨g, 0, none⟩) (n + m) cap) w' ∧ w'.ownsRow B e size (.slice (some ⟨g, 0, none⟩) (n + m) cap) (n + m) (xs ++ news) ∧ W.grownBy w' v.ownBlock := by
  obtain ⟨i, z, h2, h3, h4, h5, h6⟩ := el.info
  have hl : news.length = m * size := by obtain ⟨_, _, _, _, _, _, h, _⟩ := hx; exact h
  cases ao with
  | none =>
    obtain ⟨rfl, rfl⟩ : m = 0 ∧ c = 0 := by
      obtain ⟨ao', cap, e1, h, _, h', _, _⟩ := hx
      simp at e1
      obtain ⟨rfl, rfl⟩ := e1
      have := h' rfl
      omega
    have hnil : news = [] := List.length_eq_zero_iff.1 (by simpa using hl)
    subst hnil
    obtain ⟨g, cap, rfl, _, _⟩ := hown.form hn
    have hr := run_append_owned_none (P := P) (w := W) B t ty e i size el.und h2 _ n xs hown
    exact ⟨g, cap, W, hr, by rw [List.append_nil]; exact hown, ⟨rfl, rfl, rfl, Nat.le_refl _, fun _ _ _ => rfl⟩⟩
  | some ad =>
    obtain ⟨v', w', hr, h7, h8, _⟩ := run_append_own (P := P) W B t ty e i z size bytes el.und h2 h3 h4 h5 h6 el.pos v n xs hown ad m c news hl (sl_news hx) h1 (by unfold maxLen; exact h63) h47 hB
    obtain ⟨g, cap, rfl, _, _⟩ := h7.form (by omega)
    exact ⟨g, cap, w', hr, h7, h8⟩
theorem wp_append_any {P : Program} {o : Oper} {a : Act} {K : Act → World → Prop} {Q : Exit → Act → World → Prop} {W : World} {B : Nat} {t e : TypeId} {size bytes n m c : Nat} {ao : Option Addr} {v : Value} {xs news : List Value} (el : Elem P t e size bytes) (s x : Operand)
    (ho : o.op = .call { callee := .builtin .append, args := #[s, x], argTypes := #[t, t] }) (hown : W.ownsRow B e size v n xs) (hs : a.eval s = v) (hxv : a.eval x = .slice ao m c) (hx : Sl W size (.slice ao m c) m news) (h1 : ∀ u ∈ news, u.oneCell' = true)
    (hn : 0 < n) (h47 : (n + m) * bytes ≤ 140737488355328) (h63 : n + m ≤ 9223372036854775807) (hB : B ≤ W.heap.size)
    (h : ∀ g cap w', w'.ownsRow B e size (.slice (some ⟨g, 0, none⟩) (n + m) cap) (n + m) (xs ++ news) → W.grownBy w' v.ownBlock → K (a.put o.dst (.slice (some ⟨g, 0, none⟩) (n + m) cap)) w') : o.wp P a W K Q := by
  obtain ⟨g, cap, w', hr, h2, h3⟩ := run_append_any (P := P) (ty := o.type) el hown hx h1 hn h47 h63 hB
  unfold Oper.wp execOp
  simp only [ho, resolve, invoke, builtin, Sem.run_bind, Sem.run_pure, Result.andThen_ok, List.map_toArray, List.map_cons, List.map_nil, hs, hxv, hr]
  exact h g cap w' h2 h3
theorem step_append_any {P : Program} {ops : Array Oper} {o : Oper} {a : Act} {K : Act → World → Prop} {Q : Exit → Act → World → Prop} {E : Prop} {W : World} {B : Nat} {t e : TypeId} {size bytes n m c : Nat} {ao : Option Addr} {v : Value} {xs news : List Value} (el : Elem P t e size bytes) (hgd : o.guard = none) (s x : Operand)
    (ho : o.op = .call { callee := .builtin .append, args := #[s, x], argTypes := #[t, t] }) (hown : W.ownsRow B e size v n xs) (hs : a.eval s = v) (hxv : a.eval x = .slice ao m c) (hx : Sl W size (.slice ao m c) m news) (h1 : ∀ u ∈ news, u.oneCell' = true)
    (hn : 0 < n) (h47 : (n + m) * bytes ≤ 140737488355328) (h63 : n + m ≤ 9223372036854775807) (hB : B ≤ W.heap.size)
    (h : ∀ g cap w', w'.ownsRow B e size (.slice (some ⟨g, 0, none⟩) (n + m) cap) (n + m) (xs ++ news) → W.grownBy w' v.ownBlock → K (a.put o.dst (.slice (some ⟨g, 0, none⟩) (n + m) cap)) w') :
    if Region.wanted o (yielded ops a.tmps) = true then Oper.wp P o a W K Q else E := by
  have hw : Region.wanted o (yielded ops a.tmps) = true := by simp [Region.wanted, hgd]
  rw [if_pos hw]
  exact wp_append_any el s x ho hown hs hxv hx h1 hn h47 h63 hB h
theorem wpList_append_any {P : Program} {ops : Array Oper} {rest : List Oper} {o : Oper} {a : Act} {Q : Exit → Act → World → Prop} {W : World} {B : Nat} {t e : TypeId} {size bytes n m c : Nat} {ao : Option Addr} {v : Value} {xs news : List Value} (el : Elem P t e size bytes) (hgd : o.guard = none) (s x : Operand)
    (ho : o.op = .call { callee := .builtin .append, args := #[s, x], argTypes := #[t, t] }) (hown : W.ownsRow B e size v n xs) (hs : a.eval s = v) (hxv : a.eval x = .slice ao m c) (hx : Sl W size (.slice ao m c) m news) (h1 : ∀ u ∈ news, u.oneCell' = true)
    (hn : 0 < n) (h47 : (n + m) * bytes ≤ 140737488355328) (h63 : n + m ≤ 9223372036854775807) (hB : B ≤ W.heap.size)
    (h : ∀ g cap w', w'.ownsRow B e size (.slice (some ⟨g, 0, none⟩) (n + m) cap) (n + m) (xs ++ news) → W.grownBy w' v.ownBlock → wpList P ops Q rest (a.put o.dst (.slice (some ⟨g, 0, none⟩) (n + m) cap)) w') : wpList P ops Q (o :: rest) a W :=
  wpList_plain hgd fun _ hK => wp_append_any el s x ho hown hs hxv hx h1 hn h47 h63 hB fun g cap w' h2 h3 => hK _ _ (h g cap w' h2 h3)
/-- A copy of a slice, made by append to nil. -/
theorem wpList_append_copy {P : Program} {ops : Array Oper} {rest : List Oper} {o : Oper} {a : Act} {Q : Exit → Act → World → Prop} {W w0 : World} {B : Nat} {t e : TypeId} {size bytes m c : Nat} {ao : Option Addr} {news : List Value} (el : Elem P t e size bytes) (hgd : o.guard = none) (s x : Operand)
    (ho : o.op = .call { callee := .builtin .append, args := #[s, x], argTypes := #[t, t] }) (hs : a.eval s = .slice none 0 0) (hxv : a.eval x = .slice ao m c) (hx : Sl W size (.slice ao m c) m news) (h1 : ∀ u ∈ news, u.oneCell' = true)
    (h47 : m * bytes ≤ 140737488355328) (h63 : m ≤ 9223372036854775807) (hbel : Below B w0 W) (hB : B ≤ W.heap.size)
    (h : ∀ v' w', w'.ownsRow B e size v' m news → Below B w0 w' → wpList P ops Q rest (a.put o.dst v') w') : wpList P ops Q (o :: rest) a W := by
  obtain ⟨i, z, h2, h3, h4, h5, h6⟩ := el.info
  have hl : news.length = m * size := by obtain ⟨_, _, _, _, _, _, h, _⟩ := hx; exact h
  cases ao with
  | none =>
    obtain ⟨rfl, rfl⟩ : m = 0 ∧ c = 0 := by
      obtain ⟨ao', cap, e1, h, _, h', _, _⟩ := hx
      simp at e1
      obtain ⟨rfl, rfl⟩ := e1
      have := h' rfl
      omega
    have hnil : news = [] := List.length_eq_zero_iff.1 (by simpa using hl)
    subst hnil
    exact wpList_append_own_none hgd s x t ho B e i size el.und h2 _ 0 [] hs (World.ownsRow_nil _ _ _ _) hxv (h _ _ (World.ownsRow_nil _ _ _ _) hbel)
  | some ad =>
    refine appendS el hgd s x ho (World.ownsRow_nil W B e size) hbel hB hs hxv hx h1 (by rw [Nat.zero_add]; exact h47) (by omega) ?_
    intro v' w' h7 h8 _
    rw [Nat.zero_add, List.nil_append] at h7
    exact h v' w' h7 h8
theorem rowCells_set {k : Nat} {l : List (List Int)} (h : RowsK k l) {i j : Nat} (hi : i < l.length) (hj : j < k) (z : Int) : (rowCells l).set (i * k + j) (.int .i64 z) = rowCells (l.set i ((l.getD i []).set j z)) := by
  have hg : l.getD i [] = l[i] := by rw [List.getD_eq_getElem?_getD, List.getElem?_eq_getElem hi]; rfl
  rw [hg]
  have e1 : l = l.take i ++ [l[i]] ++ l.drop (i + 1) := by
    rw [List.append_assoc, List.singleton_append, ← List.drop_eq_getElem_cons hi, List.take_append_drop]
  have e2 : l.set i (l[i].set j z) = l.take i ++ [l[i].set j z] ++ l.drop (i + 1) := by
    rw [List.set_eq_take_append_cons_drop, if_pos hi, List.append_assoc, List.singleton_append]
  have hri := h l[i] (List.getElem_mem _)
  have hl : (rowCells (l.take i)).length = i * k := by
    rw [rowCells_len k _ (fun r hr => h r (List.mem_of_mem_take hr)), List.length_take, Nat.min_eq_left (by omega)]
  rw [e2]
  conv => lhs; rw [e1]
  rw [rowCells_append, rowCells_append, rowCells_append, rowCells_append, rowCells_one, rowCells_one, List.append_assoc, List.set_append_right _ _ (by omega), hl, Nat.add_sub_cancel_left, List.set_append_left _ _ (by rw [List.length_map, hri]; exact hj), List.map_set, List.append_assoc]
/-- Parts of a row that is the call's own: what lies ahead of a place, with no room behind; what lies from the place on. -/
theorem own_parts {W : World} {B : Nat} {e : TypeId} {size n g cap i : Nat} {xs : List Value} (h : W.ownsRow B e size (.slice (some ⟨g, 0, none⟩) n cap) n xs) (hi : i ≤ n) :
    Sl W size (.slice (some ⟨g, 0, none⟩) i i) i (xs.take (i * size)) ∧ Sl W size (.slice (if cap = i then some ⟨g, 0, none⟩ else some ⟨g, i * size, none⟩) (n - i) (cap - i)) (n - i) (xs.drop (i * size)) := by
  have hsl := own_sl h
  obtain ⟨ao, c, e1, h2, h3, h4, h5, h6⟩ := hsl
  have hsl := own_sl h
  constructor
  · refine ⟨_, _, rfl, Nat.le_refl _, by simp at e1; omega, by simp, ?_, fun hp => ?_⟩
    · rw [List.length_take, h5, Nat.min_eq_left (Nat.mul_le_mul_right _ hi)]
    · obtain ⟨b, off, e2, hc⟩ := h6 (by omega)
      simp at e1
      rw [e2] at e1
      simp at e1
      obtain ⟨⟨rfl, rfl⟩, _⟩ := e1
      refine ⟨g, 0, rfl, fun j u hu => hc j u ?_⟩
      have hj : j < i * size := by
        rcases Nat.lt_or_ge j (i * size) with h | h
        · exact h
        · rw [List.getElem?_take, if_neg (by omega)] at hu; simp at hu
      rwa [List.getElem?_take, if_pos hj] at hu
  · have := sl_sliced hsl hi (Nat.le_refl _)
    rw [List.take_of_length_le (by rw [List.length_drop, h5, Nat.sub_mul]; omega)] at this
    unfold sliced at this
    simpa [addr_add] using this
/-- append of a slice to a literal of one element. -/
theorem wp_append_lit {P : Program} {o : Oper} {a : Act} {K : Act → World → Prop} {Q : Exit → Act → World → Prop} {W0 : World} {t e : TypeId} {size bytes m c : Nat} {ao : Option Addr} {news : List Value} (cells : List Value) (el : Elem P t e size bytes) (s x : Operand)
    (ho : o.op = .call { callee := .builtin .append, args := #[s, x], argTypes := #[t, t] }) (hs : a.eval s = .slice (some ⟨W0.heap.size, 0, none⟩) 1 1) (hxv : a.eval x = .slice ao m c) (hx : Sl W0 size (.slice ao m c) m news) (hl : cells.length = size) (h1 : ∀ u ∈ news, u.oneCell' = true)
    (h47 : (1 + m) * bytes ≤ 140737488355328) (h63 : 1 + m ≤ 9223372036854775807)
    (h : ∀ g cap w', w'.ownsRow W0.heap.size e size (.slice (some ⟨g, 0, none⟩) (1 + m) cap) (1 + m) (cells ++ news) → Below W0.heap.size W0 w' → K (a.put o.dst (.slice (some ⟨g, 0, none⟩) (1 + m) cap)) w') : o.wp P a (W0.alloc (.cells cells.toArray e)) K Q := by
  have hown : (W0.alloc (.cells cells.toArray e)).ownsRow W0.heap.size e size (.slice (some ⟨W0.heap.size, 0, none⟩) 1 1) 1 cells := own_build W0 cells (Nat.le_refl _) (by rw [Nat.one_mul]; exact hl) (by decide)
  refine wp_append_any el s x ho hown hs hxv (hx.alloc _) h1 (by decide) h47 h63 (by simp) ?_
  intro g cap w' h2 h3
  exact h g cap w' h2 (below_own hown ((Below.refl _ W0).alloc (Nat.le_refl _) _) (Nat.le_refl _) (by simp) h3)
theorem step_append_lit {P : Program} {ops : Array Oper} {o : Oper} {a : Act} {K : Act → World → Prop} {Q : Exit → Act → World → Prop} {E : Prop} {W0 : World} {t e : TypeId} {size bytes m c : Nat} {ao : Option Addr} {news : List Value} (cells : List Value) (el : Elem P t e size bytes) (hgd : o.guard = none) (s x : Operand)
    (ho : o.op = .call { callee := .builtin .append, args := #[s, x], argTypes := #[t, t] }) (hs : a.eval s = .slice (some ⟨W0.heap.size, 0, none⟩) 1 1) (hxv : a.eval x = .slice ao m c) (hx : Sl W0 size (.slice ao m c) m news) (hl : cells.length = size) (h1 : ∀ u ∈ news, u.oneCell' = true)
    (h47 : (1 + m) * bytes ≤ 140737488355328) (h63 : 1 + m ≤ 9223372036854775807)
    (h : ∀ g cap w', w'.ownsRow W0.heap.size e size (.slice (some ⟨g, 0, none⟩) (1 + m) cap) (1 + m) (cells ++ news) → Below W0.heap.size W0 w' → K (a.put o.dst (.slice (some ⟨g, 0, none⟩) (1 + m) cap)) w') :
    if Region.wanted o (yielded ops a.tmps) = true then Oper.wp P o a (W0.alloc (.cells cells.toArray e)) K Q else E := by
  have hw : Region.wanted o (yielded ops a.tmps) = true := by simp [Region.wanted, hgd]
  rw [if_pos hw]
  exact wp_append_lit cells el s x ho hs hxv hx hl h1 h47 h63 h
/-- A row is put in at a place of a row that is the call's own. -/
theorem own_ins {w' : World} {B : Nat} {e : TypeId} {k p j g cap : Nat} {acc : List (List Int)} {r : List Int} (h : w'.ownsRow B e k (.slice (some ⟨g, 0, none⟩) (j + (1 + (p - j))) cap) (j + (1 + (p - j))) ((rowCells acc).take (j * k) ++ (r.map (Value.int .i64) ++ (rowCells acc).drop (j * k)))) (hk : RowsK k acc) (hp : acc.length = p) (hj : j ≤ p) :
    w'.ownsRow B e k (.slice (some ⟨g, 0, none⟩) (p + 1) cap) (p + 1) (rowCells (acc.take j ++ r :: acc.drop j)) := by
  rw [rowCells_ins, ← rowCells_take hk j, ← rowCells_drop hk j (by omega)]
  rw [show j + (1 + (p - j)) = p + 1 by omega] at h
  exact h
theorem own_ins_end {w' : World} {B : Nat} {e : TypeId} {k j g cap : Nat} {acc : List (List Int)} {r : List Int} (h : w'.ownsRow B e k (.slice (some ⟨g, 0, none⟩) (j + 1) cap) (j + 1) ((rowCells acc).take (j * k) ++ (r.map (Value.int .i64) ++ (rowCells acc).drop (j * k)))) (hk : RowsK k acc) (hp : acc.length = j) :
    w'.ownsRow B e k (.slice (some ⟨g, 0, none⟩) (j + 1) cap) (j + 1) (rowCells (acc.take j ++ r :: acc.drop j)) := by
  rw [rowCells_ins, ← rowCells_take hk j, ← rowCells_drop hk j (by omega)]
  exact h
theorem sl_nil (w : World) (size : Nat) : Sl w size (.slice none 0 0) 0 [] := ⟨none, 0, rfl, Nat.le_refl _, Nat.zero_le _, fun _ => rfl, by simp, fun h => absurd h (Nat.lt_irrefl _)⟩
/-- The whole of an owned row, as what lies ahead of its end; what lies behind is nothing. -/
theorem own_end {W : World} {B : Nat} {e : TypeId} {size n c : Nat} {ao : Option Addr} {xs : List Value} (h : W.ownsRow B e size (.slice ao n c) n xs) :
    (ao = none ∧ n = 0 ∧ c = 0 ∧ Sl W size (.slice none 0 0) 0 (xs.take (n * size)) ∧ Sl W size (.slice none 0 0) 0 (xs.drop (n * size))) ∨
    ∃ g, ao = some ⟨g, 0, none⟩ ∧ Sl W size (.slice (some ⟨g, 0, none⟩) n n) n (xs.take (n * size)) ∧ ((c = n ∧ Sl W size (.slice (some ⟨g, 0, none⟩) 0 0) 0 (xs.drop (n * size))) ∨ (¬ c = n ∧ Sl W size (.slice (some ⟨g, n * size, none⟩) 0 (c - n)) 0 (xs.drop (n * size)))) := by
  have hl := h.1
  rcases h.2 with ⟨e1, hn⟩ | ⟨g, cap, cur, e1, _⟩
  · left
    simp at e1
    obtain ⟨rfl, rfl, rfl⟩ := e1
    have : xs = [] := List.length_eq_zero_iff.1 (by simpa using hl)
    subst this
    exact ⟨rfl, rfl, rfl, by simpa using sl_nil W size, by simpa using sl_nil W size⟩
  · right
    simp at e1
    obtain ⟨rfl, rfl⟩ := e1
    obtain ⟨p1, p2⟩ := own_parts h (Nat.le_refl _)
    rw [Nat.sub_self] at p2
    refine ⟨g, rfl, p1, ?_⟩
    by_cases hc : c = n
    · left
      rw [if_pos hc] at p2
      subst hc
      rw [Nat.sub_self] at p2
      exact ⟨rfl, p2⟩
    · right
      rw [if_neg hc] at p2
      exact ⟨hc, p2⟩
end Go.Gh
/-
  Slices of whatever elements: how they read; rows of the call's own; arguments opened.
-/
namespace Go.Gh
open Go.RowKit Go.ChangeShapes Go.WideShapes Go.ChangeAt Go.Deep
set_option linter.unusedVariables false
section
variable {α : Type}
/-- The cells of elements, each with its cells. -/
def pc (P : List (α × List Value)) : List Value := P.flatMap (·.2)
def PK (k : Nat) (P : List (α × List Value)) : Prop := ∀ p ∈ P, p.2.length = k
theorem pc_nil : pc ([] : List (α × List Value)) = [] := rfl
theorem pc_cons (p : α × List Value) (P : List (α × List Value)) : pc (p :: P) = p.2 ++ pc P := rfl
theorem pc_append (P Q : List (α × List Value)) : pc (P ++ Q) = pc P ++ pc Q := List.flatMap_append
theorem pc_snoc (P : List (α × List Value)) (a : α) (c : List Value) : pc P ++ c = pc (P ++ [(a, c)]) := by
  rw [pc_append, pc_cons, pc_nil, List.append_nil]
variable {k : Nat} {P : List (α × List Value)}
theorem PK.nil : PK k ([] : List (α × List Value)) := fun p hp => by simp at hp
theorem PK.snoc (h : PK k P) {a : α} {c : List Value} (hc : c.length = k) : PK k (P ++ [(a, c)]) := by
  intro p hp
  rcases List.mem_append.1 hp with h' | h'
  · exact h p h'
  · have : p = (a, c) := by simpa using h'
    rw [this]; exact hc
theorem PK.drop (h : PK k P) (i : Nat) : PK k (P.drop i) := fun p hp => h p (List.mem_of_mem_drop hp)
theorem PK.take (h : PK k P) (i : Nat) : PK k (P.take i) := fun p hp => h p (List.mem_of_mem_take hp)
theorem pc_len : ∀ {P : List (α × List Value)}, PK k P → (pc P).length = P.length * k
  | [], _ => by simp [pc]
  | p :: P, h => by
    rw [pc_cons, List.length_append, h p (by simp), pc_len (P := P) (fun q hq => h q (by simp [hq])), List.length_cons, Nat.succ_mul, Nat.add_comm]
theorem pc_get : ∀ {P : List (α × List Value)} {i j : Nat} {p : α × List Value}, PK k P → P[i]? = some p → j < k → (pc P)[i * k + j]? = p.2[j]?
  | [], i, j, p, _, h, _ => by simp at h
  | q :: P, 0, j, p, h, hi, hj => by
    have : q = p := by simpa using hi
    subst this
    rw [pc_cons, Nat.zero_mul, Nat.zero_add, List.getElem?_append_left (by rw [h q (by simp)]; exact hj)]
  | q :: P, i + 1, j, p, h, hi, hj => by
    have hq := h q (by simp)
    rw [pc_cons, Nat.succ_mul, List.getElem?_append_right (by rw [hq]; omega), hq, show i * k + k + j - k = i * k + j from by omega]
    exact pc_get (fun r hr => h r (by simp [hr])) (by simpa using hi) hj
theorem pc_drop (h : PK k P) (i : Nat) (hi : i ≤ P.length) : (pc P).drop (i * k) = pc (P.drop i) := by
  conv => lhs; rw [← List.take_append_drop i P]
  have hl : (pc (P.take i)).length = i * k := by rw [pc_len (h.take i), List.length_take, Nat.min_eq_left hi]
  rw [pc_append, List.drop_append_of_le_length (by omega), List.drop_of_length_le (by omega), List.nil_append]
theorem pc_take (h : PK k P) (i : Nat) : (pc P).take (i * k) = pc (P.take i) := by
  rcases Nat.lt_or_ge i P.length with hi | hi
  · conv => lhs; rw [← List.take_append_drop i P]
    have hl : (pc (P.take i)).length = i * k := by rw [pc_len (h.take i), List.length_take, Nat.min_eq_left (by omega)]
    rw [pc_append, List.take_append_of_le_length (by omega), List.take_of_length_le (by omega)]
  · rw [List.take_of_length_le hi, List.take_of_length_le]
    rw [pc_len h]
    exact Nat.mul_le_mul_right _ hi
/-- An element is written over. -/
theorem pc_set (h : PK k P) {i : Nat} (hi : i < P.length) {a : α} {c : List Value} (hc : c.length = k) : setFrom (pc P) (i * k) c = pc (P.set i (a, c)) := by
  have e1 : P = P.take i ++ [P[i]] ++ P.drop (i + 1) := by
    rw [List.append_assoc, List.singleton_append, ← List.drop_eq_getElem_cons hi, List.take_append_drop]
  have e2 : P.set i (a, c) = P.take i ++ [(a, c)] ++ P.drop (i + 1) := by
    rw [List.set_eq_take_append_cons_drop, if_pos hi, List.append_assoc, List.singleton_append]
  have hl : (pc (P.take i)).length = i * k := by rw [pc_len (h.take i), List.length_take, Nat.min_eq_left (by omega)]
  rw [e2]
  conv => lhs; rw [e1]
  rw [pc_append, pc_append, pc_append, pc_append, ← hl]
  have := setFrom_mid c (pc [P[i]]) (pc (P.take i)) (pc (P.drop (i + 1))) (by rw [pc_cons, pc_nil, List.append_nil, h P[i] (List.getElem_mem _), hc])
  rw [this, pc_cons, pc_nil, List.append_nil]
theorem pair_at {L : List α} {i : Nat} {a : α} (h : P.map (·.1) = L) (hi : L[i]? = some a) : ∃ cs, P[i]? = some (a, cs) := by
  rw [← h, List.getElem?_map] at hi
  obtain ⟨p, h1, h2⟩ := Option.map_eq_some_iff.1 hi
  exact ⟨p.2, by rw [h1]; simp [← h2]⟩
/-- What is known of an element's cells stays known. -/
def Mono (R : World → α → List Value → Prop) : Prop := ∀ (w w' : World) (a : α) (c : List Value), R w a c → Below w.heap.size w w' → R w' a c
variable {R : World → α → List Value → Prop}
/-- The slice value v reads as the list L. -/
def Sp (R : World → α → List Value → Prop) (k : Nat) (w : World) (v : Value) (L : List α) : Prop :=
  ∃ P : List (α × List Value), P.map (·.1) = L ∧ PK k P ∧ (∀ p ∈ P, R w p.1 p.2) ∧ Sl w k v L.length (pc P)
theorem Sp.below {w w' : World} {v : Value} {L : List α} (hR : Mono R) (h : Sp R k w v L) (hb : Below w.heap.size w w') : Sp R k w' v L := by
  obtain ⟨P, h1, h2, h3, h4⟩ := h
  exact ⟨P, h1, h2, fun p hp => hR _ _ _ _ (h3 p hp) hb, h4.below hb⟩
theorem Sp.nil {w : World} : Sp R k w (.slice none 0 0) ([] : List α) := ⟨[], rfl, PK.nil, fun p hp => by simp at hp, none, 0, rfl, Nat.le_refl _, Nat.zero_le _, fun _ => rfl, by simp [pc], fun h => absurd h (Nat.lt_irrefl _)⟩
theorem Sp.shape {w : World} {v : Value} {L : List α} (h : Sp R k w v L) : ∃ ao c, v = .slice ao L.length c ∧ L.length ≤ c ∧ c ≤ 9223372036854775807 := by
  obtain ⟨P, h1, h2, h3, h4⟩ := h
  obtain ⟨ao, c, e, h5, h6, _⟩ := h4.shape
  exact ⟨ao, c, e, h5, h6⟩
theorem Sp.get {w : World} {ao : Option Addr} {n c i : Nat} {L : List α} {a : α} (h : Sp R k w (.slice ao n c) L) (hi : L[i]? = some a) :
    ∃ b off cs, ao = some ⟨b, off, none⟩ ∧ R w a cs ∧ cs.length = k ∧ ∀ j u, cs[j]? = some u → w.cell? ⟨b, off + i * k + j, none⟩ = some u := by
  obtain ⟨P, h1, h2, h3, ao', cap, e, h4, h5, h6, h7, h8⟩ := h
  simp at e
  obtain ⟨rfl, rfl, rfl⟩ := e
  have hlt : i < L.length := (List.getElem?_eq_some_iff.1 hi).1
  obtain ⟨b, off, rfl, hc⟩ := h8 (by omega)
  obtain ⟨cs, hp⟩ := pair_at h1 hi
  have hm : (a, cs) ∈ P := List.mem_of_getElem? hp
  refine ⟨b, off, cs, rfl, h3 _ hm, h2 _ hm, fun j u hu => ?_⟩
  have hj : j < k := by
    have h9 := (List.getElem?_eq_some_iff.1 hu).1
    have h10 : cs.length = k := h2 _ hm
    omega
  rw [Nat.add_assoc]
  exact hc _ u (by rw [pc_get h2 hp hj]; exact hu)
theorem take_pairs {L : List α} {i : Nat} (h : P.map (·.1) = L) : (P.take i).map (·.1) = L.take i := by rw [List.map_take, h]
theorem drop_pairs {L : List α} {i : Nat} (h : P.map (·.1) = L) : (P.drop i).map (·.1) = L.drop i := by rw [List.map_drop, h]
/-- x[lo:hi]. -/
theorem Sp.cut {w : World} {ao : Option Addr} {n c lo hi : Nat} {L : List α} (h : Sp R k w (.slice ao n c) L) (h1 : lo ≤ hi) (h2 : hi ≤ n) : Sp R k w (sliced ao lo hi c k) ((L.drop lo).take (hi - lo)) := by
  obtain ⟨P, e1, e2, e3, e4⟩ := h
  have hn : n = L.length := by
    obtain ⟨_, _, e, _⟩ := e4
    simp at e
    exact e.2.1
  subst hn
  have hlen : ((L.drop lo).take (hi - lo)).length = hi - lo := by rw [List.length_take, List.length_drop]; omega
  have hPl : P.length = L.length := by rw [← e1, List.length_map]
  refine ⟨(P.drop lo).take (hi - lo), by rw [List.map_take, List.map_drop, e1], (e2.drop lo).take _, fun p hp => e3 p (List.mem_of_mem_drop (List.mem_of_mem_take hp)), ?_⟩
  have := sl_sliced e4 h1 h2
  rw [pc_drop e2 lo (by omega), pc_take (e2.drop lo)] at this
  rw [hlen]
  exact this
/-- x[1:], spelled out. -/
theorem Sp.tail {w : World} {b off q c : Nat} {x : α} {L : List α} (h : Sp R k w (.slice (some ⟨b, off, none⟩) (q + 1) c) (x :: L)) :
    (c = 1 → Sp R k w (.slice (some ⟨b, off, none⟩) q 0) L) ∧ (¬ c = 1 → Sp R k w (.slice (some ⟨b, off + k, none⟩) q (c - 1)) L) := by
  have hq : q = L.length := by
    obtain ⟨_, _, e, _⟩ := h.shape
    simp at e
    exact e.2.1
  have := h.cut (show 1 ≤ q + 1 by omega) (Nat.le_refl _)
  rw [List.drop_succ_cons, List.drop_zero, List.take_of_length_le (by omega)] at this
  unfold sliced at this
  constructor
  · intro hc
    subst hc
    simpa using this
  · intro hc
    rw [if_neg hc] at this
    simpa [addr_add] using this
/-- A row of the call's own that holds the list L. -/
def Ow (R : World → α → List Value → Prop) (k : Nat) (T : TypeId) (B : Nat) (w : World) (v : Value) (L : List α) : Prop :=
  ∃ P : List (α × List Value), P.map (·.1) = L ∧ PK k P ∧ (∀ p ∈ P, R w p.1 p.2) ∧ w.ownsRow B T k v L.length (pc P)
theorem Ow.sp {T : TypeId} {B : Nat} {w : World} {v : Value} {L : List α} (h : Ow R k T B w v L) : Sp R k w v L := by
  obtain ⟨P, h1, h2, h3, h4⟩ := h
  exact ⟨P, h1, h2, h3, own_sl h4⟩
theorem Ow.below {T : TypeId} {B : Nat} {w w' : World} {v : Value} {L : List α} (hR : Mono R) (h : Ow R k T B w v L) (hb : Below w.heap.size w w') : Ow R k T B w' v L := by
  obtain ⟨P, h1, h2, h3, h4⟩ := h
  exact ⟨P, h1, h2, fun p hp => hR _ _ _ _ (h3 p hp) hb, own_below h4 hb⟩
theorem Ow.mono {T : TypeId} {B B' : Nat} {w : World} {v : Value} {L : List α} (h : Ow R k T B w v L) (hb : B' ≤ B) : Ow R k T B' w v L := by
  obtain ⟨P, h1, h2, h3, h4⟩ := h
  exact ⟨P, h1, h2, h3, own_mono h4 hb⟩
theorem Ow.nil {T : TypeId} {B : Nat} {w : World} : Ow R k T B w (.slice none 0 0) ([] : List α) := ⟨[], rfl, PK.nil, fun p hp => by simp at hp, World.ownsRow_nil _ _ _ _⟩
theorem Ow.shape {T : TypeId} {B : Nat} {w : World} {v : Value} {L : List α} (h : Ow R k T B w v L) : ∃ ao c, v = .slice ao L.length c ∧ L.length ≤ c ∧ c ≤ 9223372036854775807 := h.sp.shape
/-- What is known of an element's cells stays known where a row of type T grows. -/
def Grow (R : World → α → List Value → Prop) (T : TypeId) (k B : Nat) : Prop := ∀ (w w' : World) (a : α) (c : List Value) (u : Value) (m : Nat) (us : List Value), R w a c → w.ownsRow B T k u m us → w.grownBy w' u.ownBlock → R w' a c
/-- One element more, behind an append to the row. -/
theorem Ow.snoc {T : TypeId} {B n : Nat} {w w' : World} {v v' : Value} {L : List α} {a : α} {c : List Value} {P : List (α × List Value)} (hG : Grow R T k B) (h1 : P.map (·.1) = L) (h2 : PK k P) (h3 : ∀ p ∈ P, R w p.1 p.2) (h4 : w.ownsRow B T k v n (pc P)) (hn : n = L.length) (hg : w.grownBy w' v.ownBlock) (hown : w'.ownsRow B T k v' (n + 1) (pc P ++ c)) (hc : c.length = k) (ha : R w a c) : Ow R k T B w' v' (L ++ [a]) := by
  refine ⟨P ++ [(a, c)], by rw [List.map_append, h1]; rfl, h2.snoc hc, ?_, ?_⟩
  · intro p hp
    rcases List.mem_append.1 hp with h' | h'
    · exact hG _ _ _ _ _ _ _ (h3 p h') h4 hg
    · have : p = (a, c) := by simpa using h'
      rw [this]
      exact hG _ _ _ _ _ _ _ ha h4 hg
  · rw [← pc_snoc, List.length_append, ← hn]
    exact hown
end
section
variable {α : Type} {H : Type} {enc : TypeId × Value → H} {P : Program} {W : World} {base : Nat} {spare : Nat → Bool} {held : Bool} {R : World → α → List Value → Prop}
/-- A slice that came in, element by element. -/
theorem sp_of {t e : TypeId} {k fuel : Nat} {v : Value} {x : DataW H × List MemPlace} (inh : Inhabited α) (ht : P.underlying t = some (.slice e)) (hk : P.cellsOf e = k) (hpos : 0 < k)
    (hel : ∀ fuel cs x, DataW.trod enc P W base spare held fuel e cs = some x → cs.length = k → ∃ a, R W a cs)
    (h : DataW.trod enc P W base spare held fuel t [v] = some x) : ∃ L : List α, Sp R k W v L ∧ L.length ≤ 9223372036854775807 ∧ ((∀ n ∈ x.1.weights P t, n ≤ reachBytes) → L.length * P.bytesOf e ≤ reachBytes) := by
  rcases open_slice ht h with ⟨hcs, _⟩ | ⟨a, len, cap, m, n, D, Pl, hcs, hb, hl, hm, hmm, hx, hi'⟩
  · obtain rfl : v = .slice none 0 0 := by simpa using hcs
    exact ⟨[], Sp.nil, by simp, fun _ => by simp⟩
  · obtain rfl : v = .slice (some a) len cap := by simpa using hcs
    have hlm : len ≤ m := by rw [hmm]; split <;> omega
    have each : ∀ i, i < len → ∃ p : α × List Value, p.2.length = k ∧ R W p.1 p.2 ∧ ∀ j u, p.2[j]? = some u → W.cell? (a.add (i * k + j)) = some u := by
      intro i hlt
      obtain ⟨cs', hc, ht'⟩ := hi' i (by omega)
      rw [hk] at hc
      obtain ⟨_, hcl, hat⟩ := World.cells?_some hc
      obtain ⟨y, hy⟩ := hel _ _ _ ht' hcl
      refine ⟨(y, cs'), hcl, hy, fun j u hu => ?_⟩
      have hj : j < k := by
        have h9 : j < cs'.length := (List.getElem?_eq_some_iff.1 hu).1
        have h10 : cs'.length = k := hcl
        omega
      have h2 := hat j hj
      rw [add_add] at h2
      rw [h2]
      exact hu
    haveI : Inhabited (α × List Value) := ⟨(inh.default, [])⟩
    obtain ⟨Q, hQ⟩ := choose_lt each
    have hL : ((List.range len).map Q).length = len := by simp
    have hPK : PK k ((List.range len).map Q) := by
      intro p hp
      obtain ⟨i, hi, rfl⟩ := List.mem_map.1 hp
      exact (hQ i (by simpa using hi)).1
    refine ⟨((List.range len).map Q).map (·.1), ⟨(List.range len).map Q, rfl, hPK, ?_, some a, cap, ?_, ?_, hm, fun h => by simp at h, ?_, fun hn => ?_⟩, ?_, ?_⟩
    · intro p hp
      obtain ⟨i, hi, rfl⟩ := List.mem_map.1 hp
      exact (hQ i (by simpa using hi)).2.1
    · rw [List.length_map, hL]
    · rw [List.length_map, hL]; exact hl
    · rw [pc_len hPK, List.length_map, List.length_map, List.length_map]
    · rw [List.length_map, hL] at hn
      obtain ⟨u0, hu0⟩ : ∃ u, (Q 0).2[0]? = some u := ⟨_, List.getElem?_eq_getElem (by rw [(hQ 0 hn).1]; exact hpos)⟩
      have h0 := (hQ 0 hn).2.2 0 u0 hu0
      obtain ⟨b, off, spot⟩ := a
      have hs := World.cell?_spot h0
      simp [Addr.add] at hs
      subst hs
      refine ⟨b, off, rfl, fun i u hu => ?_⟩
      have hidx : i < len * k := by
        rcases Nat.lt_or_ge i (len * k) with h' | h'
        · exact h'
        · rw [List.getElem?_eq_none (by rw [pc_len hPK, hL]; exact h')] at hu; simp at hu
      have hq : i / k < len := Nat.div_lt_of_lt_mul (by rw [Nat.mul_comm]; exact hidx)
      have hr : i % k < k := Nat.mod_lt _ hpos
      have hdm : i / k * k + i % k = i := by rw [Nat.mul_comm]; exact Nat.div_add_mod i k
      have hp : ((List.range len).map Q)[i / k]? = some (Q (i / k)) := by simp [hq]
      rw [← hdm, pc_get hPK hp hr] at hu
      have := (hQ (i / k) hq).2.2 (i % k) u hu
      rw [addr_add, hdm] at this
      exact this
    · rw [List.length_map, hL]; unfold maxLen at hm; omega
    · intro hs
      rw [List.length_map, hL]
      have := hs ((((List.range len).map D).length + ((List.range (m - len)).map fun j => D (len + j)).length) * P.bytesOf e) (by rw [hx]; simp [DataW.weights, ht])
      refine Nat.le_trans (Nat.mul_le_mul_right _ ?_) this
      simp
end
theorem Sp.shapeN {α : Type} {R : World → α → List Value → Prop} {k n : Nat} {w : World} {v : Value} {L : List α} (h : Sp R k w v L) (hl : L.length = n) : ∃ ao c, v = .slice ao n c ∧ n ≤ c ∧ c ≤ 9223372036854775807 := by
  subst hl
  exact h.shape
theorem Sp.headN {α : Type} {R : World → α → List Value → Prop} {k n c : Nat} {ao : Option Addr} {w : World} {x : α} {L : List α} (h : Sp R k w (.slice ao n c) (x :: L)) :
    ∃ b off cs, ao = some ⟨b, off, none⟩ ∧ R w x cs ∧ cs.length = k ∧ ∀ j u, cs[j]? = some u → w.cell? ⟨b, off + j, none⟩ = some u := by
  obtain ⟨b, off, cs, h1, h2, h3, h4⟩ := h.get (i := 0) (a := x) rfl
  refine ⟨b, off, cs, h1, h2, h3, fun j u hu => ?_⟩
  have := h4 j u hu
  rwa [Nat.zero_mul, Nat.add_zero] at this
theorem Sp.weaken {α : Type} {R R' : World → α → List Value → Prop} {k : Nat} {w : World} {v : Value} {L : List α} (h : Sp R k w v L) (hw : ∀ a c, R w a c → R' w a c) : Sp R' k w v L := by
  obtain ⟨P, h1, h2, h3, h4⟩ := h
  exact ⟨P, h1, h2, fun p hp => hw _ _ (h3 p hp), h4⟩
theorem cons_of' {α : Type} {l : List α} {n : Nat} (h : l.length = n + 1) : ∃ x r, l = x :: r ∧ r.length = n := by
  cases l with
  | nil => simp at h
  | cons x r => exact ⟨x, r, rfl, by simpa using h⟩
/-- A slice's block is old, or bears another type than T. -/
def Apart (w : World) (B : Nat) (T : TypeId) (v : Value) : Prop := ∀ b, v.ownBlock = some b → (b < B ∧ b < w.heap.size) ∨ ∃ cs e fr, w.heap[b]? = some (.cells cs e fr) ∧ e ≠ T
theorem Apart.below {w w' : World} {B : Nat} {T : TypeId} {v : Value} (h : Apart w B T v) (hb : Below w.heap.size w w') : Apart w' B T v := by
  intro b hv
  rcases h b hv with h | ⟨cs, e, fr, h, hne⟩
  · exact Or.inl ⟨h.1, Nat.lt_of_lt_of_le h.2 hb.size⟩
  · exact Or.inr ⟨cs, e, fr, (hb.block b (Array.getElem?_eq_some_iff.1 h).1).trans h, hne⟩
theorem Apart.ne {w : World} {B k m : Nat} {T : TypeId} {u v : Value} {us : List Value} {b : Nat} (h : Apart w B T v) (ho : w.ownsRow B T k u m us) (hv : v.ownBlock = some b) : u.ownBlock ≠ some b := by
  intro hu
  rcases h b hv with h | ⟨cs, e, fr, h, hne⟩
  · have := (ho.lt b hu).1
    omega
  · exact own_block_ne ho h (fun e' => hne e'.symm) hu
theorem Apart.grown {w w' : World} {B k m : Nat} {T : TypeId} {u v : Value} {us : List Value} (h : Apart w B T v) (ho : w.ownsRow B T k u m us) (hg : w.grownBy w' u.ownBlock) : Apart w' B T v := by
  intro b hv
  have hne := h.ne ho hv
  rcases h b hv with h | ⟨cs, e, fr, h, hne'⟩
  · exact Or.inl ⟨h.1, Nat.lt_of_lt_of_le h.2 hg.size⟩
  · exact Or.inr ⟨cs, e, fr, (hg.block b (Array.getElem?_eq_some_iff.1 h).1 (fun e' => hne e'.symm)).trans h, hne'⟩
/-- A slice that is apart from a row that grows reads as before. -/
theorem Sl.grownA {w w' : World} {size n B k m : Nat} {T : TypeId} {v u : Value} {xs us : List Value} (h : Sl w size v n xs) (ha : Apart w B T v) (ho : w.ownsRow B T k u m us) (hg : w.grownBy w' u.ownBlock) : Sl w' size v n xs := by
  obtain ⟨ao, cap, rfl, h2, h3, h4, h5, h6⟩ := h
  refine ⟨ao, cap, rfl, h2, h3, h4, h5, fun hn => ?_⟩
  obtain ⟨b', off, rfl, hc⟩ := h6 hn
  refine ⟨b', off, rfl, fun i u hu => ?_⟩
  exact hg.cell (hc i u hu) (fun e => ha.ne ho (b := b') rfl e.symm)
theorem Apart.own {w : World} {B B' size n : Nat} {T e : TypeId} {v : Value} {xs : List Value} (h : w.ownsRow B' e size v n xs) (hne : e ≠ T) : Apart w B T v := by
  intro b hv
  rcases h.2 with ⟨rfl, _⟩ | ⟨g, cap, cur, rfl, _, hg, _⟩
  · simp [Value.ownBlock] at hv
  · have : g = b := by simpa [Value.ownBlock] using hv
    subst this
    exact Or.inr ⟨_, _, _, hg, hne⟩
end Go.Gh
/-
  Claims: as plain functions.
-/
namespace Go.Gh
open Go.RowKit
set_option linter.unusedVariables false
/-- A number for a name: it rises as names do. -/
def keyL : Nat → List UInt8 → Int
  | 0, _ => 0
  | _ + 1, [] => 0
  | f + 1, b :: bs => ((b.toNat : Int) + 1) * 257 ^ f + keyL f bs
theorem keyL_bd : ∀ (f : Nat) (l : List UInt8), 0 ≤ keyL f l ∧ keyL f l < 257 ^ f
  | 0, l => by simp [keyL]
  | f + 1, [] => by
    simp only [keyL]
    exact ⟨Int.le_refl _, Int.pow_pos (by decide)⟩
  | f + 1, b :: bs => by
    have h := keyL_bd f bs
    have hb : b.toNat < 256 := b.toNat_lt
    have hp : (0 : Int) < 257 ^ f := Int.pow_pos (by decide)
    simp only [keyL]
    rw [Int.pow_succ]
    have h1 : 0 ≤ ((b.toNat : Int) + 1) * 257 ^ f := Int.mul_nonneg (by omega) (by omega)
    have h2 : ((b.toNat : Int) + 1) * 257 ^ f ≤ 256 * 257 ^ f := Int.mul_le_mul_of_nonneg_right (by omega) (by omega)
    have h3 : (256 : Int) * 257 ^ f + 257 ^ f = 257 ^ f * 257 := by rw [Int.mul_comm (257 ^ f)]; omega
    omega
theorem keyL_pos (f : Nat) (b : UInt8) (bs : List UInt8) : 0 < keyL (f + 1) (b :: bs) := by
  have h := keyL_bd f bs
  have hp : (0 : Int) < 257 ^ f := Int.pow_pos (by decide)
  have h1 : 1 * 257 ^ f ≤ ((b.toNat : Int) + 1) * 257 ^ f := Int.mul_le_mul_of_nonneg_right (by omega) (by omega)
  simp only [keyL]
  omega
theorem key_step {f : Nat} {a b : UInt8} {x y : List UInt8} (h : a < b) : keyL (f + 1) (a :: x) < keyL (f + 1) (b :: y) := by
  have h1 := keyL_bd f x
  have h2 := keyL_bd f y
  have hab : a.toNat < b.toNat := h
  have hp : (0 : Int) < 257 ^ f := Int.pow_pos (by decide)
  have h3 : (((a.toNat : Int) + 1) + 1) * 257 ^ f ≤ ((b.toNat : Int) + 1) * 257 ^ f := Int.mul_le_mul_of_nonneg_right (by omega) (by omega)
  rw [Int.add_mul ((a.toNat : Int) + 1) 1] at h3
  simp only [keyL]
  omega
theorem key_less : ∀ (f : Nat) (x y : List UInt8), x.length ≤ f → y.length ≤ f → Op.bytesLess x y = decide (keyL f x < keyL f y)
  | 0, [], [], _, _ => rfl
  | f + 1, [], [], _, _ => by simp [Op.bytesLess]
  | f + 1, a :: x, [], _, _ => by
    have := keyL_pos f a x
    simp only [Op.bytesLess]
    rw [decide_eq_false]
    simp only [keyL] at this ⊢
    omega
  | f + 1, [], b :: y, _, _ => by
    have := keyL_pos f b y
    simp only [Op.bytesLess]
    rw [decide_eq_true]
    simp only [keyL] at this ⊢
    omega
  | f + 1, a :: x, b :: y, hx, hy => by
    have ih := key_less f x y (by simpa using hx) (by simpa using hy)
    simp only [Op.bytesLess, ih]
    rcases (show a < b ∨ a = b ∨ b < a from by
      rcases Nat.lt_trichotomy a.toNat b.toNat with h | h | h
      · exact Or.inl h
      · exact Or.inr (Or.inl (UInt8.toNat_inj.1 h))
      · exact Or.inr (Or.inr h)) with h | h | h
    · rw [decide_eq_true h, decide_eq_true (key_step h)]
      rfl
    · subst h
      have hn : ¬ a < a := Nat.lt_irrefl _
      rw [decide_eq_false hn]
      have e : (keyL (f + 1) (a :: x) < keyL (f + 1) (a :: y)) ↔ (keyL f x < keyL f y) := by simp only [keyL]; omega
      have e2 : decide (keyL (f + 1) (a :: x) < keyL (f + 1) (a :: y)) = decide (keyL f x < keyL f y) := decide_eq_decide.2 e
      rw [e2]
      simp only [beq_self_eq_true, Bool.true_and, Bool.false_or]
    · have hn : ¬ a < b := Nat.lt_asymm h
      have hne : (a == b) = false := by
        rw [beq_eq_false_iff_ne]
        rintro rfl
        exact hn h
      have := key_step (f := f) (x := y) (y := x) h
      rw [decide_eq_false hn, hne, decide_eq_false (p := keyL (f + 1) (a :: x) < keyL (f + 1) (b :: y)) (by omega)]
      rfl
theorem key_same : ∀ (f : Nat) (x y : List UInt8), x.length ≤ f → y.length ≤ f → keyL f x = keyL f y → x = y
  | 0, [], [], _, _, _ => rfl
  | f + 1, [], [], _, _, _ => rfl
  | f + 1, a :: x, [], _, _, h => by
    have := keyL_pos f a x
    rw [h] at this
    simp [keyL] at this
  | f + 1, [], b :: y, _, _, h => by
    have := keyL_pos f b y
    rw [← h] at this
    simp [keyL] at this
  | f + 1, a :: x, b :: y, hx, hy, h => by
    rcases (show a < b ∨ a = b ∨ b < a from by
      rcases Nat.lt_trichotomy a.toNat b.toNat with h | h | h
      · exact Or.inl h
      · exact Or.inr (Or.inl (UInt8.toNat_inj.1 h))
      · exact Or.inr (Or.inr h)) with h2 | h2 | h2
    · have := key_step (f := f) (x := x) (y := y) h2
      omega
    · subst h2
      simp only [keyL] at h
      rw [key_same f x y (by simpa using hx) (by simpa using hy) (by omega)]
    · have := key_step (f := f) (x := y) (y := x) h2
      omega
def keyS (s : ByteArray) : Int := keyL 20 s.data.toList
theorem keyS_less {s t : ByteArray} (hs : s.size ≤ 20) (ht : t.size ≤ 20) : Op.bytesLess s.toList t.toList = decide (keyS s < keyS t) := by
  rw [ByteArray.toList_eq, ByteArray.toList_eq]
  exact key_less 20 _ _ (by simpa using hs) (by simpa using ht)
theorem keyS_same {s t : ByteArray} (hs : s.size ≤ 20) (ht : t.size ≤ 20) : (s.toList == t.toList) = decide (keyS s = keyS t) := by
  rw [ByteArray.toList_eq, ByteArray.toList_eq]
  by_cases h : keyS s = keyS t
  · rw [decide_eq_true h, beq_iff_eq]
    exact key_same 20 _ _ (by simpa using hs) (by simpa using ht) h
  · rw [decide_eq_false h, beq_eq_false_iff_ne]
    intro he
    exact h (by unfold keyS; rw [he])
structure Cl where
  ver : Int
  st : Int
  nm : ByteArray
  tk : List Int
def AscT (l : List Int) : Prop := ∀ i, i + 1 < l.length → l.getD i 0 < l.getD (i + 1) 0
open Classical in
noncomputable def nodeF (nm : ByteArray) (tk : List Int) : Int := if nm.size < 1 ∨ 20 < nm.size then 4 else if 20 < tk.length then 2 else if AscT tk then 0 else 5
open Classical in
noncomputable def goF : Option Cl → List Cl → Int
  | _, [] => 0
  | p, c :: L => if nodeF c.nm c.tk ≠ 0 then nodeF c.nm c.tk else if (∃ q, p = some q ∧ keyS c.nm ≤ keyS q.nm) then 5 else if c.ver < 0 ∨ c.st < 1 ∨ 4 < c.st then 4 else goF (some c) L
noncomputable def claimsF (L : List Cl) : Int := if 20 < L.length then 2 else goF none L
def cmpT : List Int → List Int → Int
  | [], [] => 0
  | [], _ :: _ => -1
  | _ :: _, [] => 1
  | a :: x, b :: y => if a < b then -1 else if b < a then 1 else cmpT x y
def cmpI (a b : Int) : Int := if a < b then -1 else if b < a then 1 else 0
def cmpC (a b : Cl) : Int := if cmpI a.ver b.ver ≠ 0 then cmpI a.ver b.ver else if cmpI a.st b.st ≠ 0 then cmpI a.st b.st else cmpT a.tk b.tk
def newerC (a b : Cl) : Bool := decide (0 < cmpC a b)
end Go.Gh
/-
  Claims that are merged: as plain functions.
-/
namespace Go.Gh
open Go.RowKit
set_option linter.unusedVariables false
theorem cmpT_self : ∀ l : List Int, cmpT l l = 0
  | [] => rfl
  | a :: l => by rw [cmpT, if_neg (by omega), if_neg (by omega)]; exact cmpT_self l
/-- A row of two numbers for each claim: its name's key, its place. -/
def keyRow (E : Nat → Cl) (i : Nat) : List Int := [keyS (E i).nm, (i : Int)]
def bothC (E : Nat → Cl) (x y : List Int) : List Int := [rg x 0, if newerC (E (rg y 1).toNat) (E (rg x 1).toNat) then rg y 1 else rg x 1]
def bigC (_ : List Int) : Bool := false
theorem bothC_key (E : Nat → Cl) (x y : List Int) : rg (bothC E x y) 0 = rg x 0 := rfl
/-- The claims that rows stand for. -/
def clsOf (E : Nat → Cl) (R : List (List Int)) : List Cl := R.map fun r => E (rg r 1).toNat
/-- Right claims are in the order of their names' keys. -/
theorem go_zero : ∀ (L : List Cl) (p : Option Cl), goF p L = 0 → (∀ c ∈ L, nodeF c.nm c.tk = 0 ∧ 0 ≤ c.ver ∧ 1 ≤ c.st ∧ c.st ≤ 4) ∧ (L.Pairwise fun c d => keyS c.nm < keyS d.nm) ∧ ∀ q, p = some q → ∀ c ∈ L, keyS q.nm < keyS c.nm
  | [], p, _ => ⟨fun c hc => by simp at hc, List.Pairwise.nil, fun q _ c hc => by simp at hc⟩
  | c :: L, p, h => by
    rw [goF] at h
    split at h
    · rename_i hn
      exact absurd h hn
    · rename_i hn
      have hn : nodeF c.nm c.tk = 0 := Classical.not_not.1 hn
      split at h
      · exact absurd h (by decide)
      · rename_i hk
        split at h
        · exact absurd h (by decide)
        · rename_i hv
          have hv1 := not_or.1 hv
          have hv2 := not_or.1 hv1.2
          obtain ⟨h1, h2, h3⟩ := go_zero L (some c) h
          refine ⟨?_, List.Pairwise.cons (fun d hd => h3 c rfl d hd) h2, ?_⟩
          · intro d hd
            rcases List.mem_cons.1 hd with rfl | hd
            · exact ⟨hn, by omega, by omega, by omega⟩
            · exact h1 d hd
          · intro q hq d hd
            have hqc : keyS q.nm < keyS c.nm := by
              rcases Int.lt_or_le (keyS q.nm) (keyS c.nm) with h' | h'
              · exact h'
              · exact absurd ⟨q, hq, h'⟩ hk
            rcases List.mem_cons.1 hd with rfl | hd
            · exact hqc
            · have := h3 c rfl d hd
              omega
theorem claims_zero {L : List Cl} (h : claimsF L = 0) : L.length ≤ 20 ∧ (∀ c ∈ L, nodeF c.nm c.tk = 0 ∧ 0 ≤ c.ver ∧ 1 ≤ c.st ∧ c.st ≤ 4) ∧ L.Pairwise fun c d => keyS c.nm < keyS d.nm := by
  unfold claimsF at h
  split at h
  · exact absurd h (by decide)
  · rename_i hl
    obtain ⟨h1, h2, _⟩ := go_zero L none h
    exact ⟨by omega, h1, h2⟩
theorem node_zero {nm : ByteArray} {tk : List Int} (h : nodeF nm tk = 0) : 1 ≤ nm.size ∧ nm.size ≤ 20 ∧ tk.length ≤ 20 ∧ AscT tk := by
  unfold nodeF at h
  split at h
  · exact absurd h (by decide)
  · rename_i h1
    have h1 := not_or.1 h1
    split at h
    · exact absurd h (by decide)
    · split at h
      · rename_i h2
        exact ⟨by omega, by omega, by omega, h2⟩
      · exact absurd h (by decide)
end Go.Gh
/-
  Nodes: as plain functions.
-/
namespace Go.Gh
set_option linter.unusedVariables false
structure Nd where
  nm : ByteArray
  tk : List Int
instance : Inhabited Nd := ⟨⟨ByteArray.empty, []⟩⟩
instance : Inhabited Cl := ⟨⟨0, 0, ByteArray.empty, []⟩⟩
/-- The key of the one ahead; below all where there is none. -/
def pk (p : Option Nd) : Int := match p with | none => 0 | some q => keyS q.nm
open Classical in
noncomputable def goN : Option Nd → List Nd → Int
  | _, [] => 0
  | p, x :: L => if x.nm.size < 1 ∨ 20 < x.nm.size then 4 else if keyS x.nm ≤ pk p then 5 else if 20 < x.tk.length then 2 else if AscT x.tk then goN (some x) L else 5
noncomputable def nodesF (L : List Nd) : Int := if 20 < L.length then 2 else goN none L
theorem key_one {s : ByteArray} (h1 : ¬ s.size < 1) : 0 < keyS s := by
  unfold keyS
  have hl : s.data.toList.length = s.size := by simp
  match h : s.data.toList with
  | [] => rw [h] at hl; simp at hl; omega
  | b :: bs => exact keyL_pos 19 b bs
theorem key_empty : keyS ⟨#[]⟩ = 0 := rfl
theorem nodes_one (nm : ByteArray) (tk : List Int) : nodesF [⟨nm, tk⟩] = nodeF nm tk := by
  unfold nodesF nodeF
  rw [if_neg (by simp), goN, goN]
  by_cases h : nm.size < 1 ∨ 20 < nm.size
  · rw [if_pos h, if_pos h]
  · rw [if_neg h, if_neg h, if_neg]
    have := key_one (s := nm) (fun h' => h (Or.inl h'))
    unfold pk
    simp only
    omega
section
variable {p : Option Nd} {x : Nd} {L : List Nd}
theorem goN_size (h : x.nm.size < 1 ∨ 20 < x.nm.size) : goN p (x :: L) = 4 := by rw [goN, if_pos h]
theorem goN_order (h : ¬ (x.nm.size < 1 ∨ 20 < x.nm.size)) (h2 : keyS x.nm ≤ pk p) : goN p (x :: L) = 5 := by rw [goN, if_neg h, if_pos h2]
theorem goN_large (h : ¬ (x.nm.size < 1 ∨ 20 < x.nm.size)) (h2 : ¬ keyS x.nm ≤ pk p) (h3 : 20 < x.tk.length) : goN p (x :: L) = 2 := by rw [goN, if_neg h, if_neg h2, if_pos h3]
theorem goN_bad (h : ¬ (x.nm.size < 1 ∨ 20 < x.nm.size)) (h2 : ¬ keyS x.nm ≤ pk p) (h3 : ¬ 20 < x.tk.length) (h4 : ¬ AscT x.tk) : goN p (x :: L) = 5 := by rw [goN, if_neg h, if_neg h2, if_neg h3, if_neg h4]
theorem goN_on (h : ¬ (x.nm.size < 1 ∨ 20 < x.nm.size)) (h2 : ¬ keyS x.nm ≤ pk p) (h3 : ¬ 20 < x.tk.length) (h4 : AscT x.tk) : goN p (x :: L) = goN (some x) L := by rw [goN, if_neg h, if_neg h2, if_neg h3, if_pos h4]
end
theorem drop_at {α : Type} {L : List α} {k : Nat} {x : α} (h : L[k]? = some x) : L.drop k = x :: L.drop (k + 1) := by
  obtain ⟨h1, h2⟩ := List.getElem?_eq_some_iff.1 h
  rw [← h2, List.drop_eq_getElem_cons h1]
/-- What comparing names comes to. -/
theorem name_le {s t : ByteArray} (hs : s.size ≤ 20) (ht : t.size ≤ 20) : (Op.bytesLess s.toList t.toList || s.toList == t.toList) = decide (keyS s ≤ keyS t) := by
  rw [keyS_less hs ht, keyS_same hs ht]
  by_cases h : keyS s < keyS t
  · rw [decide_eq_true h, decide_eq_true (p := keyS s ≤ keyS t) (by omega)]; rfl
  · by_cases h2 : keyS s = keyS t
    · rw [decide_eq_true h2, decide_eq_true (p := keyS s ≤ keyS t) (by omega), Bool.or_true]
    · rw [decide_eq_false h, decide_eq_false h2, decide_eq_false (p := keyS s ≤ keyS t) (by omega)]; rfl
theorem name_ne {s : ByteArray} (h : ¬ s.size < 1) : s.toList.isEmpty = false ∧ ¬ s.toList = [] := by
  have h2 : ¬ s.toList = [] := by
    rw [ByteArray.toList_eq]
    intro h'
    have h3 : s.data.size = 0 := by rw [← Array.length_toList, h']; rfl
    have e : s.size = s.data.size := rfl
    omega
  exact ⟨by rw [List.isEmpty_eq_false_iff]; exact h2, h2⟩
theorem name_nil {s : ByteArray} (h : s.size < 1) : s = ⟨#[]⟩ := by
  have : s.data.size = 0 := by have e : s.size = s.data.size := rfl; omega
  cases s with
  | mk d => simp at this; rw [this]
theorem not_asc {tk : List Int} {j : Nat} (h : j + 1 < tk.length) (h2 : tk.getD (j + 1) 0 ≤ tk.getD j 0) : ¬ AscT tk := fun ha => by have := ha j h; omega
end Go.Gh
