/-
  Words shared by the walks, part five: append to a slice that has no room left.
-/
import Derived.Test.YtjmplhkdohlbcaaGreatDoorEz1
import Derived.Test.YtjmplhkdohlbcaaGreatDoorEz2
import Derived.Laws.AppendOwnNone
import Derived.Sort.Walk0
namespace Go.Gh
open Go.RowKit
set_option linter.unusedVariables false

theorem sl_news {W : World} {size m c : Nat} {ad : Addr} {news : List Value} (h : Sl W size (.slice (some ad) m c) m news) : ∀ j u, news[j]? = some u → W.cell? (ad.add j) = some u := by
  obtain ⟨ao', cap, e1, _, _, _, hl, hc⟩ := h
  simp at e1
  obtain ⟨rfl, rfl⟩ := e1
  intro j u hu
  have hm : 0 < m := by
    rcases Nat.eq_zero_or_pos m with h | h
    · subst h
      have : news = [] := List.length_eq_zero_iff.1 (by simpa using hl)
      subst this; simp at hu
    · exact h
  obtain ⟨b, off, e2, hc'⟩ := hc hm
  have : ad = ⟨b, off, none⟩ := by simpa using e2
  subst this
  rw [addr_add]
  exact hc' j u hu
theorem grown_row (W : World) {e : TypeId} {size n old : Nat} (z : Value) (hz : z.cells.size = size) (cells : List Value) (hl : cells.length = n * size) (ho : old < n) (h63 : n ≤ maxLen) {B : Nat} (hB : B ≤ W.heap.size) :
    (W.drew.alloc (.cells (cells.toArray ++ Builtin.zeroCells z.cells (grownCap W n old e - n)) e)).ownsRow B e size (.slice (some ⟨W.heap.size, 0, none⟩) n (grownCap W n old e)) n cells := by
  have hge := grownCap_ge W n old e
  have hcm : grownCap W n old e ≤ maxLen := grownCap_le_maxLen W n old e h63
  refine ⟨hl, .inr ⟨W.heap.size, _, _, rfl, hB, heap_alloc_new W.drew _, hge, hcm, ?_, ?_⟩⟩
  · simp only [Array.size_append, List.size_toArray, size_zeroCells, hz, hl, ← Nat.add_mul]
    congr 1
    omega
  · rw [← hl, Array.toList_append, List.take_append_of_le_length (by simp), List.take_of_length_le (by simp)]
theorem run_append_full {P : Program} {W : World} {t ty e : TypeId} {size bytes : Nat} (el : Elem P t e size bytes) (ao : Option Addr) (n : Nat) (olds : List Value) (hsl : Sl W size (.slice ao n n) n olds) (ad : Addr) (m c : Nat) (news : List Value)
    (hx : Sl W size (.slice (some ad) m c) m news) (hm : 0 < m) (h47 : (n + m) * bytes ≤ 140737488355328) (h63 : n + m ≤ 9223372036854775807) :
    ∃ cap w', (Builtin.append_ #[t, t] ty #[.slice ao n n, .slice (some ad) m c]).run P W = .ok (.slice (some ⟨W.heap.size, 0, none⟩) (n + m) cap) w' ∧
      (∀ B, B ≤ W.heap.size → w'.ownsRow B e size (.slice (some ⟨W.heap.size, 0, none⟩) (n + m) cap) (n + m) (olds ++ news)) ∧ W.grownBy w' none := by
  obtain ⟨i, z, h2, h3, h4, h5, h6⟩ := el.info
  have hnews := sl_news hx
  have hl : news.length = m * size := by obtain ⟨_, _, _, _, _, _, h, _⟩ := hx; exact h
  have hlo : olds.length = n * size := by obtain ⟨_, _, _, _, _, _, h, _⟩ := hsl; exact h
  have hlen : (olds ++ news).length = (n + m) * size := by rw [List.length_append, hlo, hl, Nat.add_mul]
  subst h4
  subst h5
  have hgb : ∀ o, W.grownBy (W.drew.alloc o) none := fun o => ⟨rfl, rfl, rfl, by simp, fun k hk _ => heap_alloc_old W.drew _ hk⟩
  cases ao with
  | none =>
    have hn : n = 0 := by
      obtain ⟨ao', cap, e1, _, _, h, _, _⟩ := hsl
      simp at e1
      rw [e1.2]; exact h e1.1.symm
    subst hn
    have ho : olds = [] := List.length_eq_zero_iff.1 (by simpa using hlo)
    subst ho
    have hr := run_append_nil (P := P) W t ty e i z el.und h2 h3 ad m c news hl hnews hm (by omega) (by rw [Nat.zero_add] at h47; omega)
    rw [Nat.zero_add]
    refine ⟨_, _, hr, fun B hB => ?_, hgb _⟩
    rw [List.nil_append]
    exact grown_row W z h6 news hl hm (by unfold maxLen; omega) hB
  | some b =>
    have hr := run_append_grow (P := P) W t ty e i z el.und h2 h3 b n n olds hlo (sl_news hsl) ad m c news hl hnews (by omega) (by omega) (growslice_fits (by omega) h47)
    refine ⟨_, _, hr, fun B hB => ?_, hgb _⟩
    have e1 : olds.toArray ++ news.toArray = (olds ++ news).toArray := by simp
    rw [e1]
    exact grown_row W z h6 _ hlen (by omega) (by unfold maxLen; omega) hB
/-- append to a slice without room: at the operation. -/
theorem wp_append_full {P : Program} {o : Oper} {a : Act} {K : Act → World → Prop} {Q : Exit → Act → World → Prop} {W w0 : World} {B : Nat} {t e : TypeId} {size bytes : Nat} (el : Elem P t e size bytes) (s x : Operand)
    (ho : o.op = .call { callee := .builtin .append, args := #[s, x], argTypes := #[t, t] }) (ao : Option Addr) (n : Nat) (olds : List Value) (hs : a.eval s = .slice ao n n) (hsl : Sl W size (.slice ao n n) n olds) (ad : Addr) (m c : Nat) (news : List Value)
    (hx : a.eval x = .slice (some ad) m c) (hxl : Sl W size (.slice (some ad) m c) m news) (hm : 0 < m) (h47 : (n + m) * bytes ≤ 140737488355328) (h63 : n + m ≤ 9223372036854775807) (hbel : Below B w0 W) (hB : B ≤ W.heap.size)
    (h : ∀ cap w', (∀ B', B' ≤ W.heap.size → w'.ownsRow B' e size (.slice (some ⟨W.heap.size, 0, none⟩) (n + m) cap) (n + m) (olds ++ news)) → Below B w0 w' → W.grownBy w' none → K (a.put o.dst (.slice (some ⟨W.heap.size, 0, none⟩) (n + m) cap)) w') : o.wp P a W K Q := by
  obtain ⟨cap, w', hr, h2, h3⟩ := run_append_full (P := P) (ty := o.type) el ao n olds hsl ad m c news hxl hm h47 h63
  unfold Oper.wp execOp
  simp only [ho, resolve, invoke, builtin, Sem.run_bind, Sem.run_pure, Result.andThen_ok, List.map_toArray, List.map_cons, List.map_nil, hs, hx, hr]
  exact h cap w' h2 (Below.grown hbel h3 hB (fun k hk => by simp at hk)) h3
theorem wpList_append_full {P : Program} {ops : Array Oper} {rest : List Oper} {o : Oper} {a : Act} {Q : Exit → Act → World → Prop} {W w0 : World} {B : Nat} {t e : TypeId} {size bytes : Nat} (el : Elem P t e size bytes) (hgd : o.guard = none) (s x : Operand)
    (ho : o.op = .call { callee := .builtin .append, args := #[s, x], argTypes := #[t, t] }) (ao : Option Addr) (n : Nat) (olds : List Value) (hs : a.eval s = .slice ao n n) (hsl : Sl W size (.slice ao n n) n olds) (ad : Addr) (m c : Nat) (news : List Value)
    (hx : a.eval x = .slice (some ad) m c) (hxl : Sl W size (.slice (some ad) m c) m news) (hm : 0 < m) (h47 : (n + m) * bytes ≤ 140737488355328) (h63 : n + m ≤ 9223372036854775807) (hbel : Below B w0 W) (hB : B ≤ W.heap.size)
    (h : ∀ cap w', (∀ B', B' ≤ W.heap.size → w'.ownsRow B' e size (.slice (some ⟨W.heap.size, 0, none⟩) (n + m) cap) (n + m) (olds ++ news)) → Below B w0 w' → W.grownBy w' none → wpList P ops Q rest (a.put o.dst (.slice (some ⟨W.heap.size, 0, none⟩) (n + m) cap)) w') : wpList P ops Q (o :: rest) a W :=
  wpList_plain hgd fun _ hK => wp_append_full el s x ho ao n olds hs hsl ad m c news hx hxl hm h47 h63 hbel hB fun cap w' h2 h3 h4 => hK _ _ (h cap w' h2 h3 h4)
theorem step_append_full {P : Program} {ops : Array Oper} {o : Oper} {a : Act} {K : Act → World → Prop} {Q : Exit → Act → World → Prop} {E : Prop} {W w0 : World} {B : Nat} {t e : TypeId} {size bytes : Nat} (el : Elem P t e size bytes) (hgd : o.guard = none) (s x : Operand)
    (ho : o.op = .call { callee := .builtin .append, args := #[s, x], argTypes := #[t, t] }) (ao : Option Addr) (n : Nat) (olds : List Value) (hs : a.eval s = .slice ao n n) (hsl : Sl W size (.slice ao n n) n olds) (ad : Addr) (m c : Nat) (news : List Value)
    (hx : a.eval x = .slice (some ad) m c) (hxl : Sl W size (.slice (some ad) m c) m news) (hm : 0 < m) (h47 : (n + m) * bytes ≤ 140737488355328) (h63 : n + m ≤ 9223372036854775807) (hbel : Below B w0 W) (hB : B ≤ W.heap.size)
    (h : ∀ cap w', (∀ B', B' ≤ W.heap.size → w'.ownsRow B' e size (.slice (some ⟨W.heap.size, 0, none⟩) (n + m) cap) (n + m) (olds ++ news)) → Below B w0 w' → W.grownBy w' none → K (a.put o.dst (.slice (some ⟨W.heap.size, 0, none⟩) (n + m) cap)) w') :
    if Region.wanted o (yielded ops a.tmps) = true then Oper.wp P o a W K Q else E := by
  have hw : Region.wanted o (yielded ops a.tmps) = true := by simp [Region.wanted, hgd]
  rw [if_pos hw]
  exact wp_append_full el s x ho ao n olds hs hsl ad m c news hx hxl hm h47 h63 hbel hB h
end Go.Gh
/-
  Rows whose first numbers lie within bounds: by a filter, and by two places in a list that is in order.
-/
namespace Go.Gh
set_option linter.unusedVariables false

def betF (fr till : Int) (l : List (List Int)) : List (List Int) := l.filter fun x => decide (fr ≤ rg x 0) && decide (rg x 0 < till)
theorem betF_nil (fr till : Int) : betF fr till [] = [] := rfl
theorem betF_len (fr till : Int) (l : List (List Int)) : (betF fr till l).length ≤ l.length := List.length_filter_le _ _
theorem take_getD {l : List (List Int)} {k : Nat} (h : k < l.length) : l.take (k + 1) = l.take k ++ [l.getD k []] := by
  rw [List.take_succ_eq_append_getElem h, List.getD_eq_getElem?_getD, List.getElem?_eq_getElem h]; rfl
theorem betF_in {fr till : Int} {l : List (List Int)} {k : Nat} (h : k < l.length) (h1 : fr ≤ rg (l.getD k []) 0) (h2 : rg (l.getD k []) 0 < till) : betF fr till (l.take (k + 1)) = betF fr till (l.take k) ++ [l.getD k []] := by
  rw [take_getD h]
  unfold betF
  rw [List.filter_append, List.filter_cons_of_pos (by rw [decide_eq_true h1, decide_eq_true h2]; rfl), List.filter_nil]
theorem betF_out {fr till : Int} {l : List (List Int)} {k : Nat} (h : k < l.length) (h1 : ¬ (fr ≤ rg (l.getD k []) 0 ∧ rg (l.getD k []) 0 < till)) : betF fr till (l.take (k + 1)) = betF fr till (l.take k) := by
  rw [take_getD h]
  unfold betF
  rw [List.filter_append, List.filter_cons_of_neg (by simp only [Bool.and_eq_true, decide_eq_true_eq]; exact h1), List.filter_nil, List.append_nil]
theorem mem_getD {l : List (List Int)} {x : List Int} (h : x ∈ l) : ∃ t, t < l.length ∧ l.getD t [] = x := by
  obtain ⟨t, ht, rfl⟩ := List.getElem_of_mem h
  exact ⟨t, ht, by rw [List.getD_eq_getElem?_getD, List.getElem?_eq_getElem ht]; rfl⟩
theorem getD_at {l : List (List Int)} {t : Nat} (ht : t < l.length) : l.getD t [] = l[t] := by
  rw [List.getD_eq_getElem?_getD, List.getElem?_eq_getElem ht]; rfl
/-- The place of the first element that is not below a bound. -/
def PlaceOf (b : Int) (l : List (List Int)) (i : Nat) : Prop := i ≤ l.length ∧ (∀ t, t < i → rg (l.getD t []) 0 < b) ∧ (∀ t, i ≤ t → t < l.length → b ≤ rg (l.getD t []) 0)
theorem bet_none {fr till : Int} {l : List (List Int)} {i k : Nat} (hi : PlaceOf fr l i) (hk : PlaceOf till l k) (h : k ≤ i) : betF fr till l = [] := by
  unfold betF
  rw [List.filter_eq_nil_iff]
  intro x hx
  obtain ⟨t, ht, rfl⟩ := mem_getD hx
  rcases Nat.lt_or_ge t i with h1 | h1
  · have := hi.2.1 t h1
    simp only [Bool.and_eq_true, decide_eq_true_eq]; omega
  · have := hk.2.2 t (by omega) ht
    simp only [Bool.and_eq_true, decide_eq_true_eq]; omega
theorem bet_some {fr till : Int} {l : List (List Int)} {i k : Nat} (hi : PlaceOf fr l i) (hk : PlaceOf till l k) (h : i ≤ k) : betF fr till l = (l.drop i).take (k - i) := by
  have hkl := hk.1
  have e : l = l.take i ++ (l.drop i).take (k - i) ++ l.drop k := by
    have h1 : (l.drop i).drop (k - i) = l.drop k := by rw [List.drop_drop]; congr 1; omega
    rw [List.append_assoc, ← h1, List.take_append_drop, List.take_append_drop]
  conv => lhs; rw [e]
  unfold betF
  rw [List.filter_append, List.filter_append]
  have a1 : (l.take i).filter (fun x => decide (fr ≤ rg x 0) && decide (rg x 0 < till)) = [] := by
    rw [List.filter_eq_nil_iff]
    intro x hx
    obtain ⟨t, ht, rfl⟩ := List.getElem_of_mem hx
    rw [List.length_take] at ht
    have := hi.2.1 t (by omega)
    rw [getD_at (by omega)] at this
    rw [List.getElem_take]
    simp only [Bool.and_eq_true, decide_eq_true_eq]; omega
  have a3 : (l.drop k).filter (fun x => decide (fr ≤ rg x 0) && decide (rg x 0 < till)) = [] := by
    rw [List.filter_eq_nil_iff]
    intro x hx
    obtain ⟨t, ht, rfl⟩ := List.getElem_of_mem hx
    rw [List.length_drop] at ht
    have := hk.2.2 (k + t) (by omega) (by omega)
    rw [getD_at (by omega)] at this
    rw [List.getElem_drop]
    simp only [Bool.and_eq_true, decide_eq_true_eq]; omega
  have a2 : ((l.drop i).take (k - i)).filter (fun x => decide (fr ≤ rg x 0) && decide (rg x 0 < till)) = (l.drop i).take (k - i) := by
    rw [List.filter_eq_self]
    intro x hx
    obtain ⟨t, ht, rfl⟩ := List.getElem_of_mem hx
    rw [List.length_take, List.length_drop] at ht
    have h1 := hi.2.2 (i + t) (by omega) (by omega)
    have h2 := hk.2.1 (i + t) (by omega)
    rw [getD_at (by omega)] at h1 h2
    rw [List.getElem_take, List.getElem_drop]
    simp only [Bool.and_eq_true, decide_eq_true_eq]; omega
  rw [a1, a2, a3, List.nil_append, List.append_nil]
theorem Asc.le {l : List (List Int)} (h : Asc l) {a b : Nat} (hab : a ≤ b) (hb : b < l.length) : rg (l.getD a []) 0 ≤ rg (l.getD b []) 0 := by
  rcases Nat.lt_or_eq_of_le hab with h1 | h1
  · have := List.pairwise_iff_getElem.1 h a b (by omega) hb h1
    rw [getD_at (by omega), getD_at hb]; omega
  · subst h1; omega
theorem Asc.betF {l : List (List Int)} (h : Asc l) (fr till : Int) : Asc (betF fr till l) := List.Pairwise.filter _ h
end Go.Gh
/-
  Insertion of rows one by one: by places in the list.
-/
namespace Go.Gh
set_option linter.unusedVariables false

theorem bes_snoc (both : List Int → List Int → List Int) (big : List Int → Bool) (l : List (List Int)) : ∀ (out : List (List Int)) (bad : Bool) (y : List Int),
    besF both big out bad (l ++ [y]) = (insF both (besF both big out bad l).1 y, (besF both big out bad l).2 || insBig both big (besF both big out bad l).1 y) := by
  induction l with
  | nil => intro out bad y; rfl
  | cons x l ih => intro out bad y; rw [List.cons_append, besF, ih]; rfl
theorem split_at {acc : List (List Int)} {i : Nat} (h : i < acc.length) : acc = acc.take i ++ acc.getD i [] :: acc.drop (i + 1) := by
  rw [getD_at h, ← List.drop_eq_getElem_cons h, List.take_append_drop]
theorem take_mem {acc : List (List Int)} {i : Nat} {o : List Int} (h : o ∈ acc.take i) : ∃ t, t < i ∧ t < acc.length ∧ acc.getD t [] = o := by
  obtain ⟨t, ht, rfl⟩ := List.getElem_of_mem h
  rw [List.length_take] at ht
  exact ⟨t, by omega, by omega, by rw [getD_at (by omega), List.getElem_take]⟩
theorem ins_place (both : List Int → List Int → List Int) {acc : List (List Int)} {y : List Int} {i : Nat} (hi : i ≤ acc.length) (h1 : ∀ t, t < i → rg (acc.getD t []) 0 < rg y 0) (h2 : i < acc.length → ¬ rg (acc.getD i []) 0 < rg y 0) :
    insF both acc y = if i < acc.length ∧ rg (acc.getD i []) 0 = rg y 0 then acc.set i (both (acc.getD i []) y) else acc.take i ++ y :: acc.drop i := by
  have hp : ∀ o ∈ acc.take i, rg o 0 < rg y 0 := by
    intro o ho
    obtain ⟨t, ht, _, rfl⟩ := take_mem ho
    exact h1 t ht
  rcases Nat.lt_or_ge i acc.length with h | h
  · have e := split_at h
    have := ins_at both (acc.take i) (acc.getD i [] :: acc.drop (i + 1)) y hp (fun o r ho => by injection ho with h3 h4; rw [← h3]; exact h2 h)
    rw [← e] at this
    rw [this]
    by_cases hq : rg (acc.getD i []) 0 = rg y 0
    · rw [if_pos ⟨h, hq⟩, List.set_eq_take_append_cons_drop, if_pos h]
      simp only [if_pos hq]
    · rw [if_neg (fun h => hq h.2)]
      simp only [if_neg hq]
      rw [getD_at h, ← List.drop_eq_getElem_cons h]
  · rw [if_neg (fun h' => by omega)]
    have := ins_at both (acc.take i) [] y hp (fun o r ho => by cases ho)
    rw [List.append_nil] at this
    have e : acc.take i = acc := List.take_of_length_le h
    rw [e] at this
    rw [this, e, List.drop_of_length_le h]
theorem insBig_place (both : List Int → List Int → List Int) (big : List Int → Bool) {acc : List (List Int)} {y : List Int} {i : Nat} (hi : i ≤ acc.length) (h1 : ∀ t, t < i → rg (acc.getD t []) 0 < rg y 0) (h2 : i < acc.length → ¬ rg (acc.getD i []) 0 < rg y 0) :
    insBig both big acc y = if i < acc.length ∧ rg (acc.getD i []) 0 = rg y 0 then big (both (acc.getD i []) y) else false := by
  have hp : ∀ o ∈ acc.take i, rg o 0 < rg y 0 := by
    intro o ho
    obtain ⟨t, ht, _, rfl⟩ := take_mem ho
    exact h1 t ht
  rcases Nat.lt_or_ge i acc.length with h | h
  · have e := split_at h
    have := insBig_at both big (acc.take i) (acc.getD i [] :: acc.drop (i + 1)) y hp (fun o r ho => by injection ho with h3 h4; rw [← h3]; exact h2 h)
    rw [← e] at this
    rw [this]
    by_cases hq : rg (acc.getD i []) 0 = rg y 0
    · rw [if_pos ⟨h, hq⟩]
      simp only [if_pos hq]
    · rw [if_neg (fun h => hq h.2)]
      simp only [if_neg hq]
  · rw [if_neg (fun h' => by omega)]
    have := insBig_at both big (acc.take i) [] y hp (fun o r ho => by cases ho)
    rw [List.append_nil] at this
    have e : acc.take i = acc := List.take_of_length_le h
    rw [e] at this
    exact this
theorem RowsK.ins {k : Nat} {acc : List (List Int)} {y : List Int} (h : RowsK k acc) (hy : y.length = k) (i : Nat) : RowsK k (acc.take i ++ y :: acc.drop i) := by
  intro r hr
  rcases List.mem_append.1 hr with h' | h'
  · exact h r (List.mem_of_mem_take h')
  · rcases List.mem_cons.1 h' with h'' | h''
    · rw [h'']; exact hy
    · exact h r (List.mem_of_mem_drop h'')
theorem RowsK.set {k : Nat} {acc : List (List Int)} {y : List Int} (h : RowsK k acc) (hy : y.length = k) (i : Nat) : RowsK k (acc.set i y) := by
  intro r hr
  rcases List.mem_or_eq_of_mem_set hr with h' | h'
  · exact h r h'
  · rw [h']; exact hy
theorem ins_len {acc : List (List Int)} {y : List Int} {i : Nat} (hi : i ≤ acc.length) : (acc.take i ++ y :: acc.drop i).length = acc.length + 1 := by
  rw [List.length_append, List.length_cons, List.length_take, List.length_drop]; omega
theorem rowCells_ins (acc : List (List Int)) (y : List Int) (i : Nat) : rowCells (acc.take i ++ y :: acc.drop i) = rowCells (acc.take i) ++ (y.map (Value.int .i64) ++ rowCells (acc.drop i)) := by
  rw [rowCells_append]
  rfl
/-- How far an insertion has come: the first i are ahead of the row. -/
def Ahead (acc : List (List Int)) (y : List Int) (i : Nat) : Prop := i ≤ acc.length ∧ ∀ t, t < i → rg (acc.getD t []) 0 < rg y 0
theorem Ahead.zero (acc : List (List Int)) (y : List Int) : Ahead acc y 0 := ⟨Nat.zero_le _, fun t ht => by omega⟩
theorem Ahead.succ {acc : List (List Int)} {y : List Int} {i : Nat} (h : Ahead acc y i) (hi : i < acc.length) (hlt : rg (acc.getD i []) 0 < rg y 0) : Ahead acc y (i + 1) :=
  ⟨hi, fun t ht => by
    rcases Nat.lt_or_eq_of_le (Nat.le_of_lt_succ ht) with h' | h'
    · exact h.2 t h'
    · rw [h']; exact hlt⟩
/-- What the insertions come to, as far as they have gone. -/
def besTo (both : List Int → List Int → List Int) (big : List Int → Bool) (a b : List (List Int)) (k : Nat) : List (List Int) × Bool := besF both big a false (b.take k)
theorem besTo_zero (both : List Int → List Int → List Int) (big : List Int → Bool) (a b : List (List Int)) : besTo both big a b 0 = (a, false) := rfl
theorem besTo_all (both : List Int → List Int → List Int) (big : List Int → Bool) {a b : List (List Int)} {k : Nat} (h : b.length = k) : besTo both big a b k = besF both big a false b := by
  unfold besTo; rw [List.take_of_length_le (by omega)]
theorem besTo_succ (both : List Int → List Int → List Int) (big : List Int → Bool) {a b : List (List Int)} {k : Nat} (h : k < b.length) :
    besTo both big a b (k + 1) = (insF both (besTo both big a b k).1 (b.getD k []), (besTo both big a b k).2 || insBig both big (besTo both big a b k).1 (b.getD k [])) := by
  unfold besTo
  rw [take_getD h, bes_snoc]
theorem besTo_ins {both : List Int → List Int → List Int} {big : List Int → Bool} {a b acc : List (List Int)} {bad : Bool} {k i : Nat} {y : List Int} (hk : k < b.length) (hy : b.getD k [] = y) (hacc : besTo both big a b k = (acc, bad)) (hA : Ahead acc y i) (hne : i < acc.length → rg y 0 < rg (acc.getD i []) 0) :
    besTo both big a b (k + 1) = (acc.take i ++ y :: acc.drop i, bad) := by
  rw [besTo_succ both big hk, hacc, hy, ins_place both hA.1 hA.2 (fun h => by have := hne h; omega), insBig_place both big hA.1 hA.2 (fun h => by have := hne h; omega), if_neg (fun h => by have := hne h.1; omega), if_neg (fun h => by have := hne h.1; omega), Bool.or_false]
theorem besTo_both {both : List Int → List Int → List Int} {big : List Int → Bool} {a b acc : List (List Int)} {bad : Bool} {k i : Nat} {x y : List Int} (hk : k < b.length) (hy : b.getD k [] = y) (hacc : besTo both big a b k = (acc, bad)) (hA : Ahead acc y i) (hi : i < acc.length) (hx : acc.getD i [] = x) (he : rg x 0 = rg y 0) :
    besTo both big a b (k + 1) = (acc.set i (both x y), bad || big (both x y)) := by
  subst hx
  rw [besTo_succ both big hk, hacc, hy, ins_place both hA.1 hA.2 (fun h => by omega), insBig_place both big hA.1 hA.2 (fun h => by omega), if_pos ⟨hi, he⟩, if_pos ⟨hi, he⟩]
theorem set_self {acc : List (List Int)} {i : Nat} (hi : i < acc.length) {x : List Int} (hx : acc.getD i [] = x) : acc.set i x = acc := by
  rw [getD_at hi] at hx
  subst hx
  exact List.set_getElem_self hi
end Go.Gh
/-
  Words shared by the walks, part six: append of whatever slice (nil too) to a row that is not empty; one cell of a row written over.
-/
namespace Go.Gh
open Go.RowKit
set_option linter.unusedVariables false

theorem run_append_any {P : Program} {W : World} {B : Nat} {t ty e : TypeId} {size bytes n m c : Nat} {ao : Option Addr} {v : Value} {xs news : List Value} (el : Elem P t e size bytes) (hown : W.ownsRow B e size v n xs) (hx : Sl W size (.slice ao m c) m news) (h1 : ∀ u ∈ news, u.oneCell' = true)
    (hn : 0 < n) (h47 : (n + m) * bytes ≤ 140737488355328) (h63 : n + m ≤ 9223372036854775807) (hB : B ≤ W.heap.size) :
    ∃ g cap w', (Builtin.append_ #[t, t] ty #[v, .slice ao m c]).run P W = .ok (.slice (some ⟨g, 0, none⟩) (n + m) cap) w' ∧ w'.ownsRow B e size (.slice (some ⟨g, 0, none⟩) (n + m) cap) (n + m) (xs ++ news) ∧ W.grownBy w' v.ownBlock := by
  obtain ⟨i, z, h2, h3, h4, h5, h6⟩ := el.info
  have hl : news.length = m * size := by obtain ⟨_, _, _, _, _, _, h, _⟩ := hx; exact h
  cases ao with
  | none =>
    obtain ⟨rfl, rfl⟩ : m = 0 ∧ c = 0 := by
      obtain ⟨ao', cap, e1, h, _, h', _, _⟩ := hx
      simp at e1
      obtain ⟨rfl, rfl⟩ := e1
      have := h' rfl
      omega
    have hnil : news = [] := List.length_eq_zero_iff.1 (by simpa using hl)
    subst hnil
    obtain ⟨g, cap, rfl, _, _⟩ := hown.form hn
    have hr := run_append_owned_none (P := P) (w := W) B t ty e i size el.und h2 _ n xs hown
    exact ⟨g, cap, W, hr, by rw [List.append_nil]; exact hown, ⟨rfl, rfl, rfl, Nat.le_refl _, fun _ _ _ => rfl⟩⟩
  | some ad =>
    obtain ⟨v', w', hr, h7, h8, _⟩ := run_append_own (P := P) W B t ty e i z size bytes el.und h2 h3 h4 h5 h6 el.pos v n xs hown ad m c news hl (sl_news hx) h1 (by unfold maxLen; exact h63) h47 hB
    obtain ⟨g, cap, rfl, _, _⟩ := h7.form (by omega)
    exact ⟨g, cap, w', hr, h7, h8⟩
theorem wp_append_any {P : Program} {o : Oper} {a : Act} {K : Act → World → Prop} {Q : Exit → Act → World → Prop} {W : World} {B : Nat} {t e : TypeId} {size bytes n m c : Nat} {ao : Option Addr} {v : Value} {xs news : List Value} (el : Elem P t e size bytes) (s x : Operand)
    (ho : o.op = .call { callee := .builtin .append, args := #[s, x], argTypes := #[t, t] }) (hown : W.ownsRow B e size v n xs) (hs : a.eval s = v) (hxv : a.eval x = .slice ao m c) (hx : Sl W size (.slice ao m c) m news) (h1 : ∀ u ∈ news, u.oneCell' = true)
    (hn : 0 < n) (h47 : (n + m) * bytes ≤ 140737488355328) (h63 : n + m ≤ 9223372036854775807) (hB : B ≤ W.heap.size)
    (h : ∀ g cap w', w'.ownsRow B e size (.slice (some ⟨g, 0, none⟩) (n + m) cap) (n + m) (xs ++ news) → W.grownBy w' v.ownBlock → K (a.put o.dst (.slice (some ⟨g, 0, none⟩) (n + m) cap)) w') : o.wp P a W K Q := by
  obtain ⟨g, cap, w', hr, h2, h3⟩ := run_append_any (P := P) (ty := o.type) el hown hx h1 hn h47 h63 hB
  unfold Oper.wp execOp
  simp only [ho, resolve, invoke, builtin, Sem.run_bind, Sem.run_pure, Result.andThen_ok, List.map_toArray, List.map_cons, List.map_nil, hs, hxv, hr]
  exact h g cap w' h2 h3
theorem step_append_any {P : Program} {ops : Array Oper} {o : Oper} {a : Act} {K : Act → World → Prop} {Q : Exit → Act → World → Prop} {E : Prop} {W : World} {B : Nat} {t e : TypeId} {size bytes n m c : Nat} {ao : Option Addr} {v : Value} {xs news : List Value} (el : Elem P t e size bytes) (hgd : o.guard = none) (s x : Operand)
    (ho : o.op = .call { callee := .builtin .append, args := #[s, x], argTypes := #[t, t] }) (hown : W.ownsRow B e size v n xs) (hs : a.eval s = v) (hxv : a.eval x = .slice ao m c) (hx : Sl W size (.slice ao m c) m news) (h1 : ∀ u ∈ news, u.oneCell' = true)
    (hn : 0 < n) (h47 : (n + m) * bytes ≤ 140737488355328) (h63 : n + m ≤ 9223372036854775807) (hB : B ≤ W.heap.size)
    (h : ∀ g cap w', w'.ownsRow B e size (.slice (some ⟨g, 0, none⟩) (n + m) cap) (n + m) (xs ++ news) → W.grownBy w' v.ownBlock → K (a.put o.dst (.slice (some ⟨g, 0, none⟩) (n + m) cap)) w') :
    if Region.wanted o (yielded ops a.tmps) = true then Oper.wp P o a W K Q else E := by
  have hw : Region.wanted o (yielded ops a.tmps) = true := by simp [Region.wanted, hgd]
  rw [if_pos hw]
  exact wp_append_any el s x ho hown hs hxv hx h1 hn h47 h63 hB h
theorem wpList_append_any {P : Program} {ops : Array Oper} {rest : List Oper} {o : Oper} {a : Act} {Q : Exit → Act → World → Prop} {W : World} {B : Nat} {t e : TypeId} {size bytes n m c : Nat} {ao : Option Addr} {v : Value} {xs news : List Value} (el : Elem P t e size bytes) (hgd : o.guard = none) (s x : Operand)
    (ho : o.op = .call { callee := .builtin .append, args := #[s, x], argTypes := #[t, t] }) (hown : W.ownsRow B e size v n xs) (hs : a.eval s = v) (hxv : a.eval x = .slice ao m c) (hx : Sl W size (.slice ao m c) m news) (h1 : ∀ u ∈ news, u.oneCell' = true)
    (hn : 0 < n) (h47 : (n + m) * bytes ≤ 140737488355328) (h63 : n + m ≤ 9223372036854775807) (hB : B ≤ W.heap.size)
    (h : ∀ g cap w', w'.ownsRow B e size (.slice (some ⟨g, 0, none⟩) (n + m) cap) (n + m) (xs ++ news) → W.grownBy w' v.ownBlock → wpList P ops Q rest (a.put o.dst (.slice (some ⟨g, 0, none⟩) (n + m) cap)) w') : wpList P ops Q (o :: rest) a W :=
  wpList_plain hgd fun _ hK => wp_append_any el s x ho hown hs hxv hx h1 hn h47 h63 hB fun g cap w' h2 h3 => hK _ _ (h g cap w' h2 h3)
/-- A copy of a slice, made by append to nil. -/
theorem wpList_append_copy {P : Program} {ops : Array Oper} {rest : List Oper} {o : Oper} {a : Act} {Q : Exit → Act → World → Prop} {W w0 : World} {B : Nat} {t e : TypeId} {size bytes m c : Nat} {ao : Option Addr} {news : List Value} (el : Elem P t e size bytes) (hgd : o.guard = none) (s x : Operand)
    (ho : o.op = .call { callee := .builtin .append, args := #[s, x], argTypes := #[t, t] }) (hs : a.eval s = .slice none 0 0) (hxv : a.eval x = .slice ao m c) (hx : Sl W size (.slice ao m c) m news) (h1 : ∀ u ∈ news, u.oneCell' = true)
    (h47 : m * bytes ≤ 140737488355328) (h63 : m ≤ 9223372036854775807) (hbel : Below B w0 W) (hB : B ≤ W.heap.size)
    (h : ∀ v' w', w'.ownsRow B e size v' m news → Below B w0 w' → wpList P ops Q rest (a.put o.dst v') w') : wpList P ops Q (o :: rest) a W := by
  obtain ⟨i, z, h2, h3, h4, h5, h6⟩ := el.info
  have hl : news.length = m * size := by obtain ⟨_, _, _, _, _, _, h, _⟩ := hx; exact h
  cases ao with
  | none =>
    obtain ⟨rfl, rfl⟩ : m = 0 ∧ c = 0 := by
      obtain ⟨ao', cap, e1, h, _, h', _, _⟩ := hx
      simp at e1
      obtain ⟨rfl, rfl⟩ := e1
      have := h' rfl
      omega
    have hnil : news = [] := List.length_eq_zero_iff.1 (by simpa using hl)
    subst hnil
    exact wpList_append_own_none hgd s x t ho B e i size el.und h2 _ 0 [] hs (World.ownsRow_nil _ _ _ _) hxv (h _ _ (World.ownsRow_nil _ _ _ _) hbel)
  | some ad =>
    refine appendS el hgd s x ho (World.ownsRow_nil W B e size) hbel hB hs hxv hx h1 (by rw [Nat.zero_add]; exact h47) (by omega) ?_
    intro v' w' h7 h8 _
    rw [Nat.zero_add, List.nil_append] at h7
    exact h v' w' h7 h8
theorem rowCells_set {k : Nat} {l : List (List Int)} (h : RowsK k l) {i j : Nat} (hi : i < l.length) (hj : j < k) (z : Int) : (rowCells l).set (i * k + j) (.int .i64 z) = rowCells (l.set i ((l.getD i []).set j z)) := by
  have hg : l.getD i [] = l[i] := by rw [List.getD_eq_getElem?_getD, List.getElem?_eq_getElem hi]; rfl
  rw [hg]
  have e1 : l = l.take i ++ [l[i]] ++ l.drop (i + 1) := by
    rw [List.append_assoc, List.singleton_append, ← List.drop_eq_getElem_cons hi, List.take_append_drop]
  have e2 : l.set i (l[i].set j z) = l.take i ++ [l[i].set j z] ++ l.drop (i + 1) := by
    rw [List.set_eq_take_append_cons_drop, if_pos hi, List.append_assoc, List.singleton_append]
  have hri := h l[i] (List.getElem_mem _)
  have hl : (rowCells (l.take i)).length = i * k := by
    rw [rowCells_len k _ (fun r hr => h r (List.mem_of_mem_take hr)), List.length_take, Nat.min_eq_left (by omega)]
  rw [e2]
  conv => lhs; rw [e1]
  rw [rowCells_append, rowCells_append, rowCells_append, rowCells_append, rowCells_one, rowCells_one, List.append_assoc, List.set_append_right _ _ (by omega), hl, Nat.add_sub_cancel_left, List.set_append_left _ _ (by rw [List.length_map, hri]; exact hj), List.map_set, List.append_assoc]
/-- Parts of a row that is the call's own: what lies ahead of a place, with no room behind; what lies from the place on. -/
theorem own_parts {W : World} {B : Nat} {e : TypeId} {size n g cap i : Nat} {xs : List Value} (h : W.ownsRow B e size (.slice (some ⟨g, 0, none⟩) n cap) n xs) (hi : i ≤ n) :
    Sl W size (.slice (some ⟨g, 0, none⟩) i i) i (xs.take (i * size)) ∧ Sl W size (.slice (if cap = i then some ⟨g, 0, none⟩ else some ⟨g, i * size, none⟩) (n - i) (cap - i)) (n - i) (xs.drop (i * size)) := by
  have hsl := own_sl h
  obtain ⟨ao, c, e1, h2, h3, h4, h5, h6⟩ := hsl
  have hsl := own_sl h
  constructor
  · refine ⟨_, _, rfl, Nat.le_refl _, by simp at e1; omega, by simp, ?_, fun hp => ?_⟩
    · rw [List.length_take, h5, Nat.min_eq_left (Nat.mul_le_mul_right _ hi)]
    · obtain ⟨b, off, e2, hc⟩ := h6 (by omega)
      simp at e1
      rw [e2] at e1
      simp at e1
      obtain ⟨⟨rfl, rfl⟩, _⟩ := e1
      refine ⟨g, 0, rfl, fun j u hu => hc j u ?_⟩
      have hj : j < i * size := by
        rcases Nat.lt_or_ge j (i * size) with h | h
        · exact h
        · rw [List.getElem?_take, if_neg (by omega)] at hu; simp at hu
      rwa [List.getElem?_take, if_pos hj] at hu
  · have := sl_sliced hsl hi (Nat.le_refl _)
    rw [List.take_of_length_le (by rw [List.length_drop, h5, Nat.sub_mul]; omega)] at this
    unfold sliced at this
    simpa [addr_add] using this
/-- append of a slice to a literal of one element. -/
theorem wp_append_lit {P : Program} {o : Oper} {a : Act} {K : Act → World → Prop} {Q : Exit → Act → World → Prop} {W0 : World} {t e : TypeId} {size bytes m c : Nat} {ao : Option Addr} {news : List Value} (cells : List Value) (el : Elem P t e size bytes) (s x : Operand)
    (ho : o.op = .call { callee := .builtin .append, args := #[s, x], argTypes := #[t, t] }) (hs : a.eval s = .slice (some ⟨W0.heap.size, 0, none⟩) 1 1) (hxv : a.eval x = .slice ao m c) (hx : Sl W0 size (.slice ao m c) m news) (hl : cells.length = size) (h1 : ∀ u ∈ news, u.oneCell' = true)
    (h47 : (1 + m) * bytes ≤ 140737488355328) (h63 : 1 + m ≤ 9223372036854775807)
    (h : ∀ g cap w', w'.ownsRow W0.heap.size e size (.slice (some ⟨g, 0, none⟩) (1 + m) cap) (1 + m) (cells ++ news) → Below W0.heap.size W0 w' → K (a.put o.dst (.slice (some ⟨g, 0, none⟩) (1 + m) cap)) w') : o.wp P a (W0.alloc (.cells cells.toArray e)) K Q := by
  have hown : (W0.alloc (.cells cells.toArray e)).ownsRow W0.heap.size e size (.slice (some ⟨W0.heap.size, 0, none⟩) 1 1) 1 cells := own_build W0 cells (Nat.le_refl _) (by rw [Nat.one_mul]; exact hl) (by decide)
  refine wp_append_any el s x ho hown hs hxv (hx.alloc _) h1 (by decide) h47 h63 (by simp) ?_
  intro g cap w' h2 h3
  exact h g cap w' h2 (below_own hown ((Below.refl _ W0).alloc (Nat.le_refl _) _) (Nat.le_refl _) (by simp) h3)
theorem step_append_lit {P : Program} {ops : Array Oper} {o : Oper} {a : Act} {K : Act → World → Prop} {Q : Exit → Act → World → Prop} {E : Prop} {W0 : World} {t e : TypeId} {size bytes m c : Nat} {ao : Option Addr} {news : List Value} (cells : List Value) (el : Elem P t e size bytes) (hgd : o.guard = none) (s x : Operand)
    (ho : o.op = .call { callee := .builtin .append, args := #[s, x], argTypes := #[t, t] }) (hs : a.eval s = .slice (some ⟨W0.heap.size, 0, none⟩) 1 1) (hxv : a.eval x = .slice ao m c) (hx : Sl W0 size (.slice ao m c) m news) (hl : cells.length = size) (h1 : ∀ u ∈ news, u.oneCell' = true)
    (h47 : (1 + m) * bytes ≤ 140737488355328) (h63 : 1 + m ≤ 9223372036854775807)
    (h : ∀ g cap w', w'.ownsRow W0.heap.size e size (.slice (some ⟨g, 0, none⟩) (1 + m) cap) (1 + m) (cells ++ news) → Below W0.heap.size W0 w' → K (a.put o.dst (.slice (some ⟨g, 0, none⟩) (1 + m) cap)) w') :
    if Region.wanted o (yielded ops a.tmps) = true then Oper.wp P o a (W0.alloc (.cells cells.toArray e)) K Q else E := by
  have hw : Region.wanted o (yielded ops a.tmps) = true := by simp [Region.wanted, hgd]
  rw [if_pos hw]
  exact wp_append_lit cells el s x ho hs hxv hx hl h1 h47 h63 h
/-- A row is put in at a place of a row that is the call's own. -/
theorem own_ins {w' : World} {B : Nat} {e : TypeId} {k p j g cap : Nat} {acc : List (List Int)} {r : List Int} (h : w'.ownsRow B e k (.slice (some ⟨g, 0, none⟩) (j + (1 + (p - j))) cap) (j + (1 + (p - j))) ((rowCells acc).take (j * k) ++ (r.map (Value.int .i64) ++ (rowCells acc).drop (j * k)))) (hk : RowsK k acc) (hp : acc.length = p) (hj : j ≤ p) :
    w'.ownsRow B e k (.slice (some ⟨g, 0, none⟩) (p + 1) cap) (p + 1) (rowCells (acc.take j ++ r :: acc.drop j)) := by
  rw [rowCells_ins, ← rowCells_take hk j, ← rowCells_drop hk j (by omega)]
  rw [show j + (1 + (p - j)) = p + 1 by omega] at h
  exact h
theorem own_ins_end {w' : World} {B : Nat} {e : TypeId} {k j g cap : Nat} {acc : List (List Int)} {r : List Int} (h : w'.ownsRow B e k (.slice (some ⟨g, 0, none⟩) (j + 1) cap) (j + 1) ((rowCells acc).take (j * k) ++ (r.map (Value.int .i64) ++ (rowCells acc).drop (j * k)))) (hk : RowsK k acc) (hp : acc.length = j) :
    w'.ownsRow B e k (.slice (some ⟨g, 0, none⟩) (j + 1) cap) (j + 1) (rowCells (acc.take j ++ r :: acc.drop j)) := by
  rw [rowCells_ins, ← rowCells_take hk j, ← rowCells_drop hk j (by omega)]
  exact h
theorem sl_nil (w : World) (size : Nat) : Sl w size (.slice none 0 0) 0 [] := ⟨none, 0, rfl, Nat.le_refl _, Nat.zero_le _, fun _ => rfl, by simp, fun h => absurd h (Nat.lt_irrefl _)⟩
/-- The whole of an owned row, as what lies ahead of its end; what lies behind is nothing. -/
theorem own_end {W : World} {B : Nat} {e : TypeId} {size n c : Nat} {ao : Option Addr} {xs : List Value} (h : W.ownsRow B e size (.slice ao n c) n xs) :
    (ao = none ∧ n = 0 ∧ c = 0 ∧ Sl W size (.slice none 0 0) 0 (xs.take (n * size)) ∧ Sl W size (.slice none 0 0) 0 (xs.drop (n * size))) ∨
    ∃ g, ao = some ⟨g, 0, none⟩ ∧ Sl W size (.slice (some ⟨g, 0, none⟩) n n) n (xs.take (n * size)) ∧ ((c = n ∧ Sl W size (.slice (some ⟨g, 0, none⟩) 0 0) 0 (xs.drop (n * size))) ∨ (¬ c = n ∧ Sl W size (.slice (some ⟨g, n * size, none⟩) 0 (c - n)) 0 (xs.drop (n * size)))) := by
  have hl := h.1
  rcases h.2 with ⟨e1, hn⟩ | ⟨g, cap, cur, e1, _⟩
  · left
    simp at e1
    obtain ⟨rfl, rfl, rfl⟩ := e1
    have : xs = [] := List.length_eq_zero_iff.1 (by simpa using hl)
    subst this
    exact ⟨rfl, rfl, rfl, by simpa using sl_nil W size, by simpa using sl_nil W size⟩
  · right
    simp at e1
    obtain ⟨rfl, rfl⟩ := e1
    obtain ⟨p1, p2⟩ := own_parts h (Nat.le_refl _)
    rw [Nat.sub_self] at p2
    refine ⟨g, rfl, p1, ?_⟩
    by_cases hc : c = n
    · left
      rw [if_pos hc] at p2
      subst hc
      rw [Nat.sub_self] at p2
      exact ⟨rfl, p2⟩
    · right
      rw [if_neg hc] at p2
      exact ⟨hc, p2⟩
end Go.Gh
/-
  Slices of whatever elements: how they read; rows of the call's own; arguments opened.
-/
namespace Go.Gh
open Go.RowKit Go.ChangeShapes Go.WideShapes Go.ChangeAt Go.Deep
set_option linter.unusedVariables false
section
variable {α : Type}
/-- The cells of elements, each with its cells. -/
def pc (P : List (α × List Value)) : List Value := P.flatMap (·.2)
def PK (k : Nat) (P : List (α × List Value)) : Prop := ∀ p ∈ P, p.2.length = k
theorem pc_nil : pc ([] : List (α × List Value)) = [] := rfl
theorem pc_cons (p : α × List Value) (P : List (α × List Value)) : pc (p :: P) = p.2 ++ pc P := rfl
theorem pc_append (P Q : List (α × List Value)) : pc (P ++ Q) = pc P ++ pc Q := List.flatMap_append
theorem pc_snoc (P : List (α × List Value)) (a : α) (c : List Value) : pc P ++ c = pc (P ++ [(a, c)]) := by
  rw [pc_append, pc_cons, pc_nil, List.append_nil]
variable {k : Nat} {P : List (α × List Value)}
theorem PK.nil : PK k ([] : List (α × List Value)) := fun p hp => by simp at hp
theorem PK.snoc (h : PK k P) {a : α} {c : List Value} (hc : c.length = k) : PK k (P ++ [(a, c)]) := by
  intro p hp
  rcases List.mem_append.1 hp with h' | h'
  · exact h p h'
  · have : p = (a, c) := by simpa using h'
    rw [this]; exact hc
theorem PK.drop (h : PK k P) (i : Nat) : PK k (P.drop i) := fun p hp => h p (List.mem_of_mem_drop hp)
theorem PK.take (h : PK k P) (i : Nat) : PK k (P.take i) := fun p hp => h p (List.mem_of_mem_take hp)
theorem pc_len : ∀ {P : List (α × List Value)}, PK k P → (pc P).length = P.length * k
  | [], _ => by simp [pc]
  | p :: P, h => by
    rw [pc_cons, List.length_append, h p (by simp), pc_len (P := P) (fun q hq => h q (by simp [hq])), List.length_cons, Nat.succ_mul, Nat.add_comm]
theorem pc_get : ∀ {P : List (α × List Value)} {i j : Nat} {p : α × List Value}, PK k P → P[i]? = some p → j < k → (pc P)[i * k + j]? = p.2[j]?
  | [], i, j, p, _, h, _ => by simp at h
  | q :: P, 0, j, p, h, hi, hj => by
    have : q = p := by simpa using hi
    subst this
    rw [pc_cons, Nat.zero_mul, Nat.zero_add, List.getElem?_append_left (by rw [h q (by simp)]; exact hj)]
  | q :: P, i + 1, j, p, h, hi, hj => by
    have hq := h q (by simp)
    rw [pc_cons, Nat.succ_mul, List.getElem?_append_right (by rw [hq]; omega), hq, show i * k + k + j - k = i * k + j from by omega]
    exact pc_get (fun r hr => h r (by simp [hr])) (by simpa using hi) hj
theorem pc_drop (h : PK k P) (i : Nat) (hi : i ≤ P.length) : (pc P).drop (i * k) = pc (P.drop i) := by
  conv => lhs; rw [← List.take_append_drop i P]
  have hl : (pc (P.take i)).length = i * k := by rw [pc_len (h.take i), List.length_take, Nat.min_eq_left hi]
  rw [pc_append, List.drop_append_of_le_length (by omega), List.drop_of_length_le (by omega), List.nil_append]
theorem pc_take (h : PK k P) (i : Nat) : (pc P).take (i * k) = pc (P.take i) := by
  rcases Nat.lt_or_ge i P.length with hi | hi
  · conv => lhs; rw [← List.take_append_drop i P]
    have hl : (pc (P.take i)).length = i * k := by rw [pc_len (h.take i), List.length_take, Nat.min_eq_left (by omega)]
    rw [pc_append, List.take_append_of_le_length (by omega), List.take_of_length_le (by omega)]
  · rw [List.take_of_length_le hi, List.take_of_length_le]
    rw [pc_len h]
    exact Nat.mul_le_mul_right _ hi
/-- An element is written over. -/
theorem pc_set (h : PK k P) {i : Nat} (hi : i < P.length) {a : α} {c : List Value} (hc : c.length = k) : setFrom (pc P) (i * k) c = pc (P.set i (a, c)) := by
  have e1 : P = P.take i ++ [P[i]] ++ P.drop (i + 1) := by
    rw [List.append_assoc, List.singleton_append, ← List.drop_eq_getElem_cons hi, List.take_append_drop]
  have e2 : P.set i (a, c) = P.take i ++ [(a, c)] ++ P.drop (i + 1) := by
    rw [List.set_eq_take_append_cons_drop, if_pos hi, List.append_assoc, List.singleton_append]
  have hl : (pc (P.take i)).length = i * k := by rw [pc_len (h.take i), List.length_take, Nat.min_eq_left (by omega)]
  rw [e2]
  conv => lhs; rw [e1]
  rw [pc_append, pc_append, pc_append, pc_append, ← hl]
  have := setFrom_mid c (pc [P[i]]) (pc (P.take i)) (pc (P.drop (i + 1))) (by rw [pc_cons, pc_nil, List.append_nil, h P[i] (List.getElem_mem _), hc])
  rw [this, pc_cons, pc_nil, List.append_nil]
theorem pair_at {L : List α} {i : Nat} {a : α} (h : P.map (·.1) = L) (hi : L[i]? = some a) : ∃ cs, P[i]? = some (a, cs) := by
  rw [← h, List.getElem?_map] at hi
  obtain ⟨p, h1, h2⟩ := Option.map_eq_some_iff.1 hi
  exact ⟨p.2, by rw [h1]; simp [← h2]⟩
/-- What is known of an element's cells stays known. -/
def Mono (R : World → α → List Value → Prop) : Prop := ∀ (w w' : World) (a : α) (c : List Value), R w a c → Below w.heap.size w w' → R w' a c
variable {R : World → α → List Value → Prop}
/-- The slice value v reads as the list L. -/
def Sp (R : World → α → List Value → Prop) (k : Nat) (w : World) (v : Value) (L : List α) : Prop :=
  ∃ P : List (α × List Value), P.map (·.1) = L ∧ PK k P ∧ (∀ p ∈ P, R w p.1 p.2) ∧ Sl w k v L.length (pc P)
theorem Sp.below {w w' : World} {v : Value} {L : List α} (hR : Mono R) (h : Sp R k w v L) (hb : Below w.heap.size w w') : Sp R k w' v L := by
  obtain ⟨P, h1, h2, h3, h4⟩ := h
  exact ⟨P, h1, h2, fun p hp => hR _ _ _ _ (h3 p hp) hb, h4.below hb⟩
theorem Sp.nil {w : World} : Sp R k w (.slice none 0 0) ([] : List α) := ⟨[], rfl, PK.nil, fun p hp => by simp at hp, none, 0, rfl, Nat.le_refl _, Nat.zero_le _, fun _ => rfl, by simp [pc], fun h => absurd h (Nat.lt_irrefl _)⟩
theorem Sp.shape {w : World} {v : Value} {L : List α} (h : Sp R k w v L) : ∃ ao c, v = .slice ao L.length c ∧ L.length ≤ c ∧ c ≤ 9223372036854775807 := by
  obtain ⟨P, h1, h2, h3, h4⟩ := h
  obtain ⟨ao, c, e, h5, h6, _⟩ := h4.shape
  exact ⟨ao, c, e, h5, h6⟩
theorem Sp.get {w : World} {ao : Option Addr} {n c i : Nat} {L : List α} {a : α} (h : Sp R k w (.slice ao n c) L) (hi : L[i]? = some a) :
    ∃ b off cs, ao = some ⟨b, off, none⟩ ∧ R w a cs ∧ cs.length = k ∧ ∀ j u, cs[j]? = some u → w.cell? ⟨b, off + i * k + j, none⟩ = some u := by
  obtain ⟨P, h1, h2, h3, ao', cap, e, h4, h5, h6, h7, h8⟩ := h
  simp at e
  obtain ⟨rfl, rfl, rfl⟩ := e
  have hlt : i < L.length := (List.getElem?_eq_some_iff.1 hi).1
  obtain ⟨b, off, rfl, hc⟩ := h8 (by omega)
  obtain ⟨cs, hp⟩ := pair_at h1 hi
  have hm : (a, cs) ∈ P := List.mem_of_getElem? hp
  refine ⟨b, off, cs, rfl, h3 _ hm, h2 _ hm, fun j u hu => ?_⟩
  have hj : j < k := by
    have h9 := (List.getElem?_eq_some_iff.1 hu).1
    have h10 : cs.length = k := h2 _ hm
    omega
  rw [Nat.add_assoc]
  exact hc _ u (by rw [pc_get h2 hp hj]; exact hu)
theorem take_pairs {L : List α} {i : Nat} (h : P.map (·.1) = L) : (P.take i).map (·.1) = L.take i := by rw [List.map_take, h]
theorem drop_pairs {L : List α} {i : Nat} (h : P.map (·.1) = L) : (P.drop i).map (·.1) = L.drop i := by rw [List.map_drop, h]
/-- x[lo:hi]. -/
theorem Sp.cut {w : World} {ao : Option Addr} {n c lo hi : Nat} {L : List α} (h : Sp R k w (.slice ao n c) L) (h1 : lo ≤ hi) (h2 : hi ≤ n) : Sp R k w (sliced ao lo hi c k) ((L.drop lo).take (hi - lo)) := by
  obtain ⟨P, e1, e2, e3, e4⟩ := h
  have hn : n = L.length := by
    obtain ⟨_, _, e, _⟩ := e4
    simp at e
    exact e.2.1
  subst hn
  have hlen : ((L.drop lo).take (hi - lo)).length = hi - lo := by rw [List.length_take, List.length_drop]; omega
  have hPl : P.length = L.length := by rw [← e1, List.length_map]
  refine ⟨(P.drop lo).take (hi - lo), by rw [List.map_take, List.map_drop, e1], (e2.drop lo).take _, fun p hp => e3 p (List.mem_of_mem_drop (List.mem_of_mem_take hp)), ?_⟩
  have := sl_sliced e4 h1 h2
  rw [pc_drop e2 lo (by omega), pc_take (e2.drop lo)] at this
  rw [hlen]
  exact this
/-- x[1:], spelled out. -/
theorem Sp.tail {w : World} {b off q c : Nat} {x : α} {L : List α} (h : Sp R k w (.slice (some ⟨b, off, none⟩) (q + 1) c) (x :: L)) :
    (c = 1 → Sp R k w (.slice (some ⟨b, off, none⟩) q 0) L) ∧ (¬ c = 1 → Sp R k w (.slice (some ⟨b, off + k, none⟩) q (c - 1)) L) := by
  have hq : q = L.length := by
    obtain ⟨_, _, e, _⟩ := h.shape
    simp at e
    exact e.2.1
  have := h.cut (show 1 ≤ q + 1 by omega) (Nat.le_refl _)
  rw [List.drop_succ_cons, List.drop_zero, List.take_of_length_le (by omega)] at this
  unfold sliced at this
  constructor
  · intro hc
    subst hc
    simpa using this
  · intro hc
    rw [if_neg hc] at this
    simpa [addr_add] using this
/-- A row of the call's own that holds the list L. -/
def Ow (R : World → α → List Value → Prop) (k : Nat) (T : TypeId) (B : Nat) (w : World) (v : Value) (L : List α) : Prop :=
  ∃ P : List (α × List Value), P.map (·.1) = L ∧ PK k P ∧ (∀ p ∈ P, R w p.1 p.2) ∧ w.ownsRow B T k v L.length (pc P)
theorem Ow.sp {T : TypeId} {B : Nat} {w : World} {v : Value} {L : List α} (h : Ow R k T B w v L) : Sp R k w v L := by
  obtain ⟨P, h1, h2, h3, h4⟩ := h
  exact ⟨P, h1, h2, h3, own_sl h4⟩
theorem Ow.below {T : TypeId} {B : Nat} {w w' : World} {v : Value} {L : List α} (hR : Mono R) (h : Ow R k T B w v L) (hb : Below w.heap.size w w') : Ow R k T B w' v L := by
  obtain ⟨P, h1, h2, h3, h4⟩ := h
  exact ⟨P, h1, h2, fun p hp => hR _ _ _ _ (h3 p hp) hb, own_below h4 hb⟩
theorem Ow.mono {T : TypeId} {B B' : Nat} {w : World} {v : Value} {L : List α} (h : Ow R k T B w v L) (hb : B' ≤ B) : Ow R k T B' w v L := by
  obtain ⟨P, h1, h2, h3, h4⟩ := h
  exact ⟨P, h1, h2, h3, own_mono h4 hb⟩
theorem Ow.nil {T : TypeId} {B : Nat} {w : World} : Ow R k T B w (.slice none 0 0) ([] : List α) := ⟨[], rfl, PK.nil, fun p hp => by simp at hp, World.ownsRow_nil _ _ _ _⟩
theorem Ow.shape {T : TypeId} {B : Nat} {w : World} {v : Value} {L : List α} (h : Ow R k T B w v L) : ∃ ao c, v = .slice ao L.length c ∧ L.length ≤ c ∧ c ≤ 9223372036854775807 := h.sp.shape
/-- What is known of an element's cells stays known where a row of type T grows. -/
def Grow (R : World → α → List Value → Prop) (T : TypeId) (k B : Nat) : Prop := ∀ (w w' : World) (a : α) (c : List Value) (u : Value) (m : Nat) (us : List Value), R w a c → w.ownsRow B T k u m us → w.grownBy w' u.ownBlock → R w' a c
/-- One element more, behind an append to the row. -/
theorem Ow.snoc {T : TypeId} {B n : Nat} {w w' : World} {v v' : Value} {L : List α} {a : α} {c : List Value} {P : List (α × List Value)} (hG : Grow R T k B) (h1 : P.map (·.1) = L) (h2 : PK k P) (h3 : ∀ p ∈ P, R w p.1 p.2) (h4 : w.ownsRow B T k v n (pc P)) (hn : n = L.length) (hg : w.grownBy w' v.ownBlock) (hown : w'.ownsRow B T k v' (n + 1) (pc P ++ c)) (hc : c.length = k) (ha : R w a c) : Ow R k T B w' v' (L ++ [a]) := by
  refine ⟨P ++ [(a, c)], by rw [List.map_append, h1]; rfl, h2.snoc hc, ?_, ?_⟩
  · intro p hp
    rcases List.mem_append.1 hp with h' | h'
    · exact hG _ _ _ _ _ _ _ (h3 p h') h4 hg
    · have : p = (a, c) := by simpa using h'
      rw [this]
      exact hG _ _ _ _ _ _ _ ha h4 hg
  · rw [← pc_snoc, List.length_append, ← hn]
    exact hown
end
section
variable {α : Type} {H : Type} {enc : TypeId × Value → H} {P : Program} {W : World} {base : Nat} {spare : Nat → Bool} {held : Bool} {R : World → α → List Value → Prop}
/-- A slice that came in, element by element. -/
theorem sp_of {t e : TypeId} {k fuel : Nat} {v : Value} {x : DataW H × List MemPlace} (inh : Inhabited α) (ht : P.underlying t = some (.slice e)) (hk : P.cellsOf e = k) (hpos : 0 < k)
    (hel : ∀ fuel cs x, DataW.trod enc P W base spare held fuel e cs = some x → cs.length = k → ∃ a, R W a cs)
    (h : DataW.trod enc P W base spare held fuel t [v] = some x) : ∃ L : List α, Sp R k W v L ∧ L.length ≤ 9223372036854775807 ∧ ((∀ n ∈ x.1.weights P t, n ≤ reachBytes) → L.length * P.bytesOf e ≤ reachBytes) := by
  rcases open_slice ht h with ⟨hcs, _⟩ | ⟨a, len, cap, m, n, D, Pl, hcs, hb, hl, hm, hmm, hx, hi'⟩
  · obtain rfl : v = .slice none 0 0 := by simpa using hcs
    exact ⟨[], Sp.nil, by simp, fun _ => by simp⟩
  · obtain rfl : v = .slice (some a) len cap := by simpa using hcs
    have hlm : len ≤ m := by rw [hmm]; split <;> omega
    have each : ∀ i, i < len → ∃ p : α × List Value, p.2.length = k ∧ R W p.1 p.2 ∧ ∀ j u, p.2[j]? = some u → W.cell? (a.add (i * k + j)) = some u := by
      intro i hlt
      obtain ⟨cs', hc, ht'⟩ := hi' i (by omega)
      rw [hk] at hc
      obtain ⟨_, hcl, hat⟩ := World.cells?_some hc
      obtain ⟨y, hy⟩ := hel _ _ _ ht' hcl
      refine ⟨(y, cs'), hcl, hy, fun j u hu => ?_⟩
      have hj : j < k := by
        have h9 : j < cs'.length := (List.getElem?_eq_some_iff.1 hu).1
        have h10 : cs'.length = k := hcl
        omega
      have h2 := hat j hj
      rw [add_add] at h2
      rw [h2]
      exact hu
    haveI : Inhabited (α × List Value) := ⟨(inh.default, [])⟩
    obtain ⟨Q, hQ⟩ := choose_lt each
    have hL : ((List.range len).map Q).length = len := by simp
    have hPK : PK k ((List.range len).map Q) := by
      intro p hp
      obtain ⟨i, hi, rfl⟩ := List.mem_map.1 hp
      exact (hQ i (by simpa using hi)).1
    refine ⟨((List.range len).map Q).map (·.1), ⟨(List.range len).map Q, rfl, hPK, ?_, some a, cap, ?_, ?_, hm, fun h => by simp at h, ?_, fun hn => ?_⟩, ?_, ?_⟩
    · intro p hp
      obtain ⟨i, hi, rfl⟩ := List.mem_map.1 hp
      exact (hQ i (by simpa using hi)).2.1
    · rw [List.length_map, hL]
    · rw [List.length_map, hL]; exact hl
    · rw [pc_len hPK, List.length_map, List.length_map, List.length_map]
    · rw [List.length_map, hL] at hn
      obtain ⟨u0, hu0⟩ : ∃ u, (Q 0).2[0]? = some u := ⟨_, List.getElem?_eq_getElem (by rw [(hQ 0 hn).1]; exact hpos)⟩
      have h0 := (hQ 0 hn).2.2 0 u0 hu0
      obtain ⟨b, off, spot⟩ := a
      have hs := World.cell?_spot h0
      simp [Addr.add] at hs
      subst hs
      refine ⟨b, off, rfl, fun i u hu => ?_⟩
      have hidx : i < len * k := by
        rcases Nat.lt_or_ge i (len * k) with h' | h'
        · exact h'
        · rw [List.getElem?_eq_none (by rw [pc_len hPK, hL]; exact h')] at hu; simp at hu
      have hq : i / k < len := Nat.div_lt_of_lt_mul (by rw [Nat.mul_comm]; exact hidx)
      have hr : i % k < k := Nat.mod_lt _ hpos
      have hdm : i / k * k + i % k = i := by rw [Nat.mul_comm]; exact Nat.div_add_mod i k
      have hp : ((List.range len).map Q)[i / k]? = some (Q (i / k)) := by simp [hq]
      rw [← hdm, pc_get hPK hp hr] at hu
      have := (hQ (i / k) hq).2.2 (i % k) u hu
      rw [addr_add, hdm] at this
      exact this
    · rw [List.length_map, hL]; unfold maxLen at hm; omega
    · intro hs
      rw [List.length_map, hL]
      have := hs ((((List.range len).map D).length + ((List.range (m - len)).map fun j => D (len + j)).length) * P.bytesOf e) (by rw [hx]; simp [DataW.weights, ht])
      refine Nat.le_trans (Nat.mul_le_mul_right _ ?_) this
      simp
end
theorem Sp.shapeN {α : Type} {R : World → α → List Value → Prop} {k n : Nat} {w : World} {v : Value} {L : List α} (h : Sp R k w v L) (hl : L.length = n) : ∃ ao c, v = .slice ao n c ∧ n ≤ c ∧ c ≤ 9223372036854775807 := by
  subst hl
  exact h.shape
theorem Sp.headN {α : Type} {R : World → α → List Value → Prop} {k n c : Nat} {ao : Option Addr} {w : World} {x : α} {L : List α} (h : Sp R k w (.slice ao n c) (x :: L)) :
    ∃ b off cs, ao = some ⟨b, off, none⟩ ∧ R w x cs ∧ cs.length = k ∧ ∀ j u, cs[j]? = some u → w.cell? ⟨b, off + j, none⟩ = some u := by
  obtain ⟨b, off, cs, h1, h2, h3, h4⟩ := h.get (i := 0) (a := x) rfl
  refine ⟨b, off, cs, h1, h2, h3, fun j u hu => ?_⟩
  have := h4 j u hu
  rwa [Nat.zero_mul, Nat.add_zero] at this
theorem Sp.weaken {α : Type} {R R' : World → α → List Value → Prop} {k : Nat} {w : World} {v : Value} {L : List α} (h : Sp R k w v L) (hw : ∀ a c, R w a c → R' w a c) : Sp R' k w v L := by
  obtain ⟨P, h1, h2, h3, h4⟩ := h
  exact ⟨P, h1, h2, fun p hp => hw _ _ (h3 p hp), h4⟩
theorem cons_of' {α : Type} {l : List α} {n : Nat} (h : l.length = n + 1) : ∃ x r, l = x :: r ∧ r.length = n := by
  cases l with
  | nil => simp at h
  | cons x r => exact ⟨x, r, rfl, by simpa using h⟩
/-- A slice's block is old, or bears another type than T. -/
def Apart (w : World) (B : Nat) (T : TypeId) (v : Value) : Prop := ∀ b, v.ownBlock = some b → (b < B ∧ b < w.heap.size) ∨ ∃ cs e fr, w.heap[b]? = some (.cells cs e fr) ∧ e ≠ T
theorem Apart.below {w w' : World} {B : Nat} {T : TypeId} {v : Value} (h : Apart w B T v) (hb : Below w.heap.size w w') : Apart w' B T v := by
  intro b hv
  rcases h b hv with h | ⟨cs, e, fr, h, hne⟩
  · exact Or.inl ⟨h.1, Nat.lt_of_lt_of_le h.2 hb.size⟩
  · exact Or.inr ⟨cs, e, fr, (hb.block b (Array.getElem?_eq_some_iff.1 h).1).trans h, hne⟩
theorem Apart.ne {w : World} {B k m : Nat} {T : TypeId} {u v : Value} {us : List Value} {b : Nat} (h : Apart w B T v) (ho : w.ownsRow B T k u m us) (hv : v.ownBlock = some b) : u.ownBlock ≠ some b := by
  intro hu
  rcases h b hv with h | ⟨cs, e, fr, h, hne⟩
  · have := (ho.lt b hu).1
    omega
  · exact own_block_ne ho h (fun e' => hne e'.symm) hu
theorem Apart.grown {w w' : World} {B k m : Nat} {T : TypeId} {u v : Value} {us : List Value} (h : Apart w B T v) (ho : w.ownsRow B T k u m us) (hg : w.grownBy w' u.ownBlock) : Apart w' B T v := by
  intro b hv
  have hne := h.ne ho hv
  rcases h b hv with h | ⟨cs, e, fr, h, hne'⟩
  · exact Or.inl ⟨h.1, Nat.lt_of_lt_of_le h.2 hg.size⟩
  · exact Or.inr ⟨cs, e, fr, (hg.block b (Array.getElem?_eq_some_iff.1 h).1 (fun e' => hne e'.symm)).trans h, hne'⟩
/-- A slice that is apart from a row that grows reads as before. -/
theorem Sl.grownA {w w' : World} {size n B k m : Nat} {T : TypeId} {v u : Value} {xs us : List Value} (h : Sl w size v n xs) (ha : Apart w B T v) (ho : w.ownsRow B T k u m us) (hg : w.grownBy w' u.ownBlock) : Sl w' size v n xs := by
  obtain ⟨ao, cap, rfl, h2, h3, h4, h5, h6⟩ := h
  refine ⟨ao, cap, rfl, h2, h3, h4, h5, fun hn => ?_⟩
  obtain ⟨b', off, rfl, hc⟩ := h6 hn
  refine ⟨b', off, rfl, fun i u hu => ?_⟩
  exact hg.cell (hc i u hu) (fun e => ha.ne ho (b := b') rfl e.symm)
theorem Apart.own {w : World} {B B' size n : Nat} {T e : TypeId} {v : Value} {xs : List Value} (h : w.ownsRow B' e size v n xs) (hne : e ≠ T) : Apart w B T v := by
  intro b hv
  rcases h.2 with ⟨rfl, _⟩ | ⟨g, cap, cur, rfl, _, hg, _⟩
  · simp [Value.ownBlock] at hv
  · have : g = b := by simpa [Value.ownBlock] using hv
    subst this
    exact Or.inr ⟨_, _, _, hg, hne⟩
end Go.Gh
/-
  Labels and matches in memory.
-/
namespace Go.Gh
open Go.RowKit
set_option linter.unusedVariables false
set_option linter.unusedSimpArgs false
def LbR (w : World) (x : Lb) (c : List Value) : Prop := c = [.string (mkS x.nm), .string (mkS x.vl)] ∧ x.nm.length ≤ 140737488355328 ∧ x.vl.length ≤ 140737488355328
def MtR (w : World) (x : Mt) (c : List Value) : Prop := c = [.int .i64 x.kd, .string (mkS x.nm), .string (mkS x.vl)] ∧ x.nm.length ≤ 140737488355328 ∧ x.vl.length ≤ 140737488355328 ∧ -9223372036854775808 ≤ x.kd ∧ x.kd < 9223372036854775808
theorem lbR_mono : Mono LbR := fun w w' a c h hb => h
theorem mtR_mono : Mono MtR := fun w w' a c h hb => h
/-- The last name. -/
def lastN (p : Option By) : By := match p with | none => [] | some q => q
theorem leB (a b : By) : (Op.bytesLess a b || a == b) = !decide (b < a) := by
  rw [Go.Proofs.bytesLess_eq]
  by_cases h1 : a < b
  · have h2 : ¬ b < a := fun h => List.lt_irrefl _ (List.lt_trans h1 h)
    simp [h1, h2]
  · by_cases h3 : a = b
    · subst h3
      simp [List.lt_irrefl]
    · have h2 : b < a := Classical.byContradiction fun h => h3 (List.le_antisymm (List.not_lt.1 h) (List.not_lt.1 h1))
      simp [h1, h2, h3]
theorem bad_le (p : Option By) {x : By} (hx : x ≠ []) : (Op.bytesLess x (lastN p) || x == lastN p) = badO p x := by
  cases p with
  | none =>
    match x, hx with
    | c :: r, _ => rfl
  | some q => exact leB x q
end Go.Gh
