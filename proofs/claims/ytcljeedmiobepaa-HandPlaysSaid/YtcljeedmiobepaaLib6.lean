/-
  Words shared by the walks, part six: append of whatever slice (nil too) to a row that is not empty; one cell of a row written over.
-/
import Derived.Test.YtcljeedmiobepaaLib5
import Derived.Laws.AppendOwnNone
import Derived.Test.YtcljeedmiobepaaBesLaw
namespace Go.Gh
open Go.RowKit
set_option linter.unusedVariables false

theorem run_append_any {P : Program} {W : World} {B : Nat} {t ty e : TypeId} {size bytes n m c : Nat} {ao : Option Addr} {v : Value} {xs news : List Value} (el : Elem P t e size bytes) (hown : W.ownsRow B e size v n xs) (hx : Sl W size (.slice ao m c) m news) (h1 : ∀ u ∈ news, u.oneCell' = true)
    (hn : 0 < n) (h47 : (n + m) * bytes ≤ 140737488355328) (h63 : n + m ≤ 9223372036854775807) (hB : B ≤ W.heap.size) :
    ∃ g cap w', (Builtin.append_ #[t, t] ty #[v, .slice ao m c]).run P W = .ok (.slice (some ⟨g, 0, none⟩) (n + m) cap) w' ∧ w'.ownsRow B e size (.slice (some ⟨g, 0, none⟩) (n + m) cap) (n + m) (xs ++ news) ∧ W.grownBy w' v.ownBlock := by
  obtain ⟨i, z, h2, h3, h4, h5, h6⟩ := el.info
  have hl : news.length = m * size := by obtain ⟨_, _, _, _, _, _, h, _⟩ := hx; exact h
  cases ao with
  | none =>
    obtain ⟨rfl, rfl⟩ : m = 0 ∧ c = 0 := by
      obtain ⟨ao', cap, e1, h, _, h', _, _⟩ := hx
      simp at e1
      obtain ⟨rfl, rfl⟩ := e1
      have := h' rfl
      omega
    have hnil : news = [] := List.length_eq_zero_iff.1 (by simpa using hl)
    subst hnil
    obtain ⟨g, cap, rfl, _, _⟩ := hown.form hn
    have hr := run_append_owned_none (P := P) (w := W) B t ty e i size el.und h2 _ n xs hown
    exact ⟨g, cap, W, hr, by rw [List.append_nil]; exact hown, ⟨rfl, rfl, rfl, Nat.le_refl _, fun _ _ _ => rfl⟩⟩
  | some ad =>
    obtain ⟨v', w', hr, h7, h8, _⟩ := run_append_own (P := P) W B t ty e i z size bytes el.und h2 h3 h4 h5 h6 el.pos v n xs hown ad m c news hl (sl_news hx) h1 (by unfold maxLen; exact h63) h47 hB
    obtain ⟨g, cap, rfl, _, _⟩ := h7.form (by omega)
    exact ⟨g, cap, w', hr, h7, h8⟩
theorem wp_append_any {P : Program} {o : Oper} {a : Act} {K : Act → World → Prop} {Q : Exit → Act → World → Prop} {W : World} {B : Nat} {t e : TypeId} {size bytes n m c : Nat} {ao : Option Addr} {v : Value} {xs news : List Value} (el : Elem P t e size bytes) (s x : Operand)
    (ho : o.op = .call { callee := .builtin .append, args := #[s, x], argTypes := #[t, t] }) (hown : W.ownsRow B e size v n xs) (hs : a.eval s = v) (hxv : a.eval x = .slice ao m c) (hx : Sl W size (.slice ao m c) m news) (h1 : ∀ u ∈ news, u.oneCell' = true)
    (hn : 0 < n) (h47 : (n + m) * bytes ≤ 140737488355328) (h63 : n + m ≤ 9223372036854775807) (hB : B ≤ W.heap.size)
    (h : ∀ g cap w', w'.ownsRow B e size (.slice (some ⟨g, 0, none⟩) (n + m) cap) (n + m) (xs ++ news) → W.grownBy w' v.ownBlock → K (a.put o.dst (.slice (some ⟨g, 0, none⟩) (n + m) cap)) w') : o.wp P a W K Q := by
  obtain ⟨g, cap, w', hr, h2, h3⟩ := run_append_any (P := P) (ty := o.type) el hown hx h1 hn h47 h63 hB
  unfold Oper.wp execOp
  simp only [ho, resolve, invoke, builtin, Sem.run_bind, Sem.run_pure, Result.andThen_ok, List.map_toArray, List.map_cons, List.map_nil, hs, hxv, hr]
  exact h g cap w' h2 h3
theorem step_append_any {P : Program} {ops : Array Oper} {o : Oper} {a : Act} {K : Act → World → Prop} {Q : Exit → Act → World → Prop} {E : Prop} {W : World} {B : Nat} {t e : TypeId} {size bytes n m c : Nat} {ao : Option Addr} {v : Value} {xs news : List Value} (el : Elem P t e size bytes) (hgd : o.guard = none) (s x : Operand)
    (ho : o.op = .call { callee := .builtin .append, args := #[s, x], argTypes := #[t, t] }) (hown : W.ownsRow B e size v n xs) (hs : a.eval s = v) (hxv : a.eval x = .slice ao m c) (hx : Sl W size (.slice ao m c) m news) (h1 : ∀ u ∈ news, u.oneCell' = true)
    (hn : 0 < n) (h47 : (n + m) * bytes ≤ 140737488355328) (h63 : n + m ≤ 9223372036854775807) (hB : B ≤ W.heap.size)
    (h : ∀ g cap w', w'.ownsRow B e size (.slice (some ⟨g, 0, none⟩) (n + m) cap) (n + m) (xs ++ news) → W.grownBy w' v.ownBlock → K (a.put o.dst (.slice (some ⟨g, 0, none⟩) (n + m) cap)) w') :
    if Region.wanted o (yielded ops a.tmps) = true then Oper.wp P o a W K Q else E := by
  have hw : Region.wanted o (yielded ops a.tmps) = true := by simp [Region.wanted, hgd]
  rw [if_pos hw]
  exact wp_append_any el s x ho hown hs hxv hx h1 hn h47 h63 hB h
theorem wpList_append_any {P : Program} {ops : Array Oper} {rest : List Oper} {o : Oper} {a : Act} {Q : Exit → Act → World → Prop} {W : World} {B : Nat} {t e : TypeId} {size bytes n m c : Nat} {ao : Option Addr} {v : Value} {xs news : List Value} (el : Elem P t e size bytes) (hgd : o.guard = none) (s x : Operand)
    (ho : o.op = .call { callee := .builtin .append, args := #[s, x], argTypes := #[t, t] }) (hown : W.ownsRow B e size v n xs) (hs : a.eval s = v) (hxv : a.eval x = .slice ao m c) (hx : Sl W size (.slice ao m c) m news) (h1 : ∀ u ∈ news, u.oneCell' = true)
    (hn : 0 < n) (h47 : (n + m) * bytes ≤ 140737488355328) (h63 : n + m ≤ 9223372036854775807) (hB : B ≤ W.heap.size)
    (h : ∀ g cap w', w'.ownsRow B e size (.slice (some ⟨g, 0, none⟩) (n + m) cap) (n + m) (xs ++ news) → W.grownBy w' v.ownBlock → wpList P ops Q rest (a.put o.dst (.slice (some ⟨g, 0, none⟩) (n + m) cap)) w') : wpList P ops Q (o :: rest) a W :=
  wpList_plain hgd fun _ hK => wp_append_any el s x ho hown hs hxv hx h1 hn h47 h63 hB fun g cap w' h2 h3 => hK _ _ (h g cap w' h2 h3)
/-- A copy of a slice, made by append to nil. -/
theorem wpList_append_copy {P : Program} {ops : Array Oper} {rest : List Oper} {o : Oper} {a : Act} {Q : Exit → Act → World → Prop} {W w0 : World} {B : Nat} {t e : TypeId} {size bytes m c : Nat} {ao : Option Addr} {news : List Value} (el : Elem P t e size bytes) (hgd : o.guard = none) (s x : Operand)
    (ho : o.op = .call { callee := .builtin .append, args := #[s, x], argTypes := #[t, t] }) (hs : a.eval s = .slice none 0 0) (hxv : a.eval x = .slice ao m c) (hx : Sl W size (.slice ao m c) m news) (h1 : ∀ u ∈ news, u.oneCell' = true)
    (h47 : m * bytes ≤ 140737488355328) (h63 : m ≤ 9223372036854775807) (hbel : Below B w0 W) (hB : B ≤ W.heap.size)
    (h : ∀ v' w', w'.ownsRow B e size v' m news → Below B w0 w' → wpList P ops Q rest (a.put o.dst v') w') : wpList P ops Q (o :: rest) a W := by
  obtain ⟨i, z, h2, h3, h4, h5, h6⟩ := el.info
  have hl : news.length = m * size := by obtain ⟨_, _, _, _, _, _, h, _⟩ := hx; exact h
  cases ao with
  | none =>
    obtain ⟨rfl, rfl⟩ : m = 0 ∧ c = 0 := by
      obtain ⟨ao', cap, e1, h, _, h', _, _⟩ := hx
      simp at e1
      obtain ⟨rfl, rfl⟩ := e1
      have := h' rfl
      omega
    have hnil : news = [] := List.length_eq_zero_iff.1 (by simpa using hl)
    subst hnil
    exact wpList_append_own_none hgd s x t ho B e i size el.und h2 _ 0 [] hs (World.ownsRow_nil _ _ _ _) hxv (h _ _ (World.ownsRow_nil _ _ _ _) hbel)
  | some ad =>
    refine appendS el hgd s x ho (World.ownsRow_nil W B e size) hbel hB hs hxv hx h1 (by rw [Nat.zero_add]; exact h47) (by omega) ?_
    intro v' w' h7 h8 _
    rw [Nat.zero_add, List.nil_append] at h7
    exact h v' w' h7 h8
theorem rowCells_set {k : Nat} {l : List (List Int)} (h : RowsK k l) {i j : Nat} (hi : i < l.length) (hj : j < k) (z : Int) : (rowCells l).set (i * k + j) (.int .i64 z) = rowCells (l.set i ((l.getD i []).set j z)) := by
  have hg : l.getD i [] = l[i] := by rw [List.getD_eq_getElem?_getD, List.getElem?_eq_getElem hi]; rfl
  rw [hg]
  have e1 : l = l.take i ++ [l[i]] ++ l.drop (i + 1) := by
    rw [List.append_assoc, List.singleton_append, ← List.drop_eq_getElem_cons hi, List.take_append_drop]
  have e2 : l.set i (l[i].set j z) = l.take i ++ [l[i].set j z] ++ l.drop (i + 1) := by
    rw [List.set_eq_take_append_cons_drop, if_pos hi, List.append_assoc, List.singleton_append]
  have hri := h l[i] (List.getElem_mem _)
  have hl : (rowCells (l.take i)).length = i * k := by
    rw [rowCells_len k _ (fun r hr => h r (List.mem_of_mem_take hr)), List.length_take, Nat.min_eq_left (by omega)]
  rw [e2]
  conv => lhs; rw [e1]
  rw [rowCells_append, rowCells_append, rowCells_append, rowCells_append, rowCells_one, rowCells_one, List.append_assoc, List.set_append_right _ _ (by omega), hl, Nat.add_sub_cancel_left, List.set_append_left _ _ (by rw [List.length_map, hri]; exact hj), List.map_set, List.append_assoc]
/-- Parts of a row that is the call's own: what lies ahead of a place, with no room behind; what lies from the place on. -/
theorem own_parts {W : World} {B : Nat} {e : TypeId} {size n g cap i : Nat} {xs : List Value} (h : W.ownsRow B e size (.slice (some ⟨g, 0, none⟩) n cap) n xs) (hi : i ≤ n) :
    Sl W size (.slice (some ⟨g, 0, none⟩) i i) i (xs.take (i * size)) ∧ Sl W size (.slice (if cap = i then some ⟨g, 0, none⟩ else some ⟨g, i * size, none⟩) (n - i) (cap - i)) (n - i) (xs.drop (i * size)) := by
  have hsl := own_sl h
  obtain ⟨ao, c, e1, h2, h3, h4, h5, h6⟩ := hsl
  have hsl := own_sl h
  constructor
  · refine ⟨_, _, rfl, Nat.le_refl _, by simp at e1; omega, by simp, ?_, fun hp => ?_⟩
    · rw [List.length_take, h5, Nat.min_eq_left (Nat.mul_le_mul_right _ hi)]
    · obtain ⟨b, off, e2, hc⟩ := h6 (by omega)
      simp at e1
      rw [e2] at e1
      simp at e1
      obtain ⟨⟨rfl, rfl⟩, _⟩ := e1
      refine ⟨g, 0, rfl, fun j u hu => hc j u ?_⟩
      have hj : j < i * size := by
        rcases Nat.lt_or_ge j (i * size) with h | h
        · exact h
        · rw [List.getElem?_take, if_neg (by omega)] at hu; simp at hu
      rwa [List.getElem?_take, if_pos hj] at hu
  · have := sl_sliced hsl hi (Nat.le_refl _)
    rw [List.take_of_length_le (by rw [List.length_drop, h5, Nat.sub_mul]; omega)] at this
    unfold sliced at this
    simpa [addr_add] using this
/-- append of a slice to a literal of one element. -/
theorem wp_append_lit {P : Program} {o : Oper} {a : Act} {K : Act → World → Prop} {Q : Exit → Act → World → Prop} {W0 : World} {t e : TypeId} {size bytes m c : Nat} {ao : Option Addr} {news : List Value} (cells : List Value) (el : Elem P t e size bytes) (s x : Operand)
    (ho : o.op = .call { callee := .builtin .append, args := #[s, x], argTypes := #[t, t] }) (hs : a.eval s = .slice (some ⟨W0.heap.size, 0, none⟩) 1 1) (hxv : a.eval x = .slice ao m c) (hx : Sl W0 size (.slice ao m c) m news) (hl : cells.length = size) (h1 : ∀ u ∈ news, u.oneCell' = true)
    (h47 : (1 + m) * bytes ≤ 140737488355328) (h63 : 1 + m ≤ 9223372036854775807)
    (h : ∀ g cap w', w'.ownsRow W0.heap.size e size (.slice (some ⟨g, 0, none⟩) (1 + m) cap) (1 + m) (cells ++ news) → Below W0.heap.size W0 w' → K (a.put o.dst (.slice (some ⟨g, 0, none⟩) (1 + m) cap)) w') : o.wp P a (W0.alloc (.cells cells.toArray e)) K Q := by
  have hown : (W0.alloc (.cells cells.toArray e)).ownsRow W0.heap.size e size (.slice (some ⟨W0.heap.size, 0, none⟩) 1 1) 1 cells := own_build W0 cells (Nat.le_refl _) (by rw [Nat.one_mul]; exact hl) (by decide)
  refine wp_append_any el s x ho hown hs hxv (hx.alloc _) h1 (by decide) h47 h63 (by simp) ?_
  intro g cap w' h2 h3
  exact h g cap w' h2 (below_own hown ((Below.refl _ W0).alloc (Nat.le_refl _) _) (Nat.le_refl _) (by simp) h3)
theorem step_append_lit {P : Program} {ops : Array Oper} {o : Oper} {a : Act} {K : Act → World → Prop} {Q : Exit → Act → World → Prop} {E : Prop} {W0 : World} {t e : TypeId} {size bytes m c : Nat} {ao : Option Addr} {news : List Value} (cells : List Value) (el : Elem P t e size bytes) (hgd : o.guard = none) (s x : Operand)
    (ho : o.op = .call { callee := .builtin .append, args := #[s, x], argTypes := #[t, t] }) (hs : a.eval s = .slice (some ⟨W0.heap.size, 0, none⟩) 1 1) (hxv : a.eval x = .slice ao m c) (hx : Sl W0 size (.slice ao m c) m news) (hl : cells.length = size) (h1 : ∀ u ∈ news, u.oneCell' = true)
    (h47 : (1 + m) * bytes ≤ 140737488355328) (h63 : 1 + m ≤ 9223372036854775807)
    (h : ∀ g cap w', w'.ownsRow W0.heap.size e size (.slice (some ⟨g, 0, none⟩) (1 + m) cap) (1 + m) (cells ++ news) → Below W0.heap.size W0 w' → K (a.put o.dst (.slice (some ⟨g, 0, none⟩) (1 + m) cap)) w') :
    if Region.wanted o (yielded ops a.tmps) = true then Oper.wp P o a (W0.alloc (.cells cells.toArray e)) K Q else E := by
  have hw : Region.wanted o (yielded ops a.tmps) = true := by simp [Region.wanted, hgd]
  rw [if_pos hw]
  exact wp_append_lit cells el s x ho hs hxv hx hl h1 h47 h63 h
/-- A row is put in at a place of a row that is the call's own. -/
theorem own_ins {w' : World} {B : Nat} {e : TypeId} {k p j g cap : Nat} {acc : List (List Int)} {r : List Int} (h : w'.ownsRow B e k (.slice (some ⟨g, 0, none⟩) (j + (1 + (p - j))) cap) (j + (1 + (p - j))) ((rowCells acc).take (j * k) ++ (r.map (Value.int .i64) ++ (rowCells acc).drop (j * k)))) (hk : RowsK k acc) (hp : acc.length = p) (hj : j ≤ p) :
    w'.ownsRow B e k (.slice (some ⟨g, 0, none⟩) (p + 1) cap) (p + 1) (rowCells (acc.take j ++ r :: acc.drop j)) := by
  rw [rowCells_ins, ← rowCells_take hk j, ← rowCells_drop hk j (by omega)]
  rw [show j + (1 + (p - j)) = p + 1 by omega] at h
  exact h
theorem own_ins_end {w' : World} {B : Nat} {e : TypeId} {k j g cap : Nat} {acc : List (List Int)} {r : List Int} (h : w'.ownsRow B e k (.slice (some ⟨g, 0, none⟩) (j + 1) cap) (j + 1) ((rowCells acc).take (j * k) ++ (r.map (Value.int .i64) ++ (rowCells acc).drop (j * k)))) (hk : RowsK k acc) (hp : acc.length = j) :
    w'.ownsRow B e k (.slice (some ⟨g, 0, none⟩) (j + 1) cap) (j + 1) (rowCells (acc.take j ++ r :: acc.drop j)) := by
  rw [rowCells_ins, ← rowCells_take hk j, ← rowCells_drop hk j (by omega)]
  exact h
theorem sl_nil (w : World) (size : Nat) : Sl w size (.slice none 0 0) 0 [] := ⟨none, 0, rfl, Nat.le_refl _, Nat.zero_le _, fun _ => rfl, by simp, fun h => absurd h (Nat.lt_irrefl _)⟩
/-- The whole of an owned row, as what lies ahead of its end; what lies behind is nothing. -/
theorem own_end {W : World} {B : Nat} {e : TypeId} {size n c : Nat} {ao : Option Addr} {xs : List Value} (h : W.ownsRow B e size (.slice ao n c) n xs) :
    (ao = none ∧ n = 0 ∧ c = 0 ∧ Sl W size (.slice none 0 0) 0 (xs.take (n * size)) ∧ Sl W size (.slice none 0 0) 0 (xs.drop (n * size))) ∨
    ∃ g, ao = some ⟨g, 0, none⟩ ∧ Sl W size (.slice (some ⟨g, 0, none⟩) n n) n (xs.take (n * size)) ∧ ((c = n ∧ Sl W size (.slice (some ⟨g, 0, none⟩) 0 0) 0 (xs.drop (n * size))) ∨ (¬ c = n ∧ Sl W size (.slice (some ⟨g, n * size, none⟩) 0 (c - n)) 0 (xs.drop (n * size)))) := by
  have hl := h.1
  rcases h.2 with ⟨e1, hn⟩ | ⟨g, cap, cur, e1, _⟩
  · left
    simp at e1
    obtain ⟨rfl, rfl, rfl⟩ := e1
    have : xs = [] := List.length_eq_zero_iff.1 (by simpa using hl)
    subst this
    exact ⟨rfl, rfl, rfl, by simpa using sl_nil W size, by simpa using sl_nil W size⟩
  · right
    simp at e1
    obtain ⟨rfl, rfl⟩ := e1
    obtain ⟨p1, p2⟩ := own_parts h (Nat.le_refl _)
    rw [Nat.sub_self] at p2
    refine ⟨g, rfl, p1, ?_⟩
    by_cases hc : c = n
    · left
      rw [if_pos hc] at p2
      subst hc
      rw [Nat.sub_self] at p2
      exact ⟨rfl, p2⟩
    · right
      rw [if_neg hc] at p2
      exact ⟨hc, p2⟩
end Go.Gh
