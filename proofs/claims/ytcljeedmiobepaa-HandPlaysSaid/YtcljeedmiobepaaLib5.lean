/-
  Words shared by the walks, part five: append to a slice that has no room left.
-/
import Derived.Test.YtcljeedmiobepaaLib4
namespace Go.Gh
open Go.RowKit
set_option linter.unusedVariables false

theorem sl_news {W : World} {size m c : Nat} {ad : Addr} {news : List Value} (h : Sl W size (.slice (some ad) m c) m news) : ∀ j u, news[j]? = some u → W.cell? (ad.add j) = some u := by
  obtain ⟨ao', cap, e1, _, _, _, hl, hc⟩ := h
  simp at e1
  obtain ⟨rfl, rfl⟩ := e1
  intro j u hu
  have hm : 0 < m := by
    rcases Nat.eq_zero_or_pos m with h | h
    · subst h
      have : news = [] := List.length_eq_zero_iff.1 (by simpa using hl)
      subst this; simp at hu
    · exact h
  obtain ⟨b, off, e2, hc'⟩ := hc hm
  have : ad = ⟨b, off, none⟩ := by simpa using e2
  subst this
  rw [addr_add]
  exact hc' j u hu
theorem grown_row (W : World) {e : TypeId} {size n old : Nat} (z : Value) (hz : z.cells.size = size) (cells : List Value) (hl : cells.length = n * size) (ho : old < n) (h63 : n ≤ maxLen) {B : Nat} (hB : B ≤ W.heap.size) :
    (W.drew.alloc (.cells (cells.toArray ++ Builtin.zeroCells z.cells (grownCap W n old e - n)) e)).ownsRow B e size (.slice (some ⟨W.heap.size, 0, none⟩) n (grownCap W n old e)) n cells := by
  have hge := grownCap_ge W n old e
  have hcm : grownCap W n old e ≤ maxLen := grownCap_le_maxLen W n old e h63
  refine ⟨hl, .inr ⟨W.heap.size, _, _, rfl, hB, heap_alloc_new W.drew _, hge, hcm, ?_, ?_⟩⟩
  · simp only [Array.size_append, List.size_toArray, size_zeroCells, hz, hl, ← Nat.add_mul]
    congr 1
    omega
  · rw [← hl, Array.toList_append, List.take_append_of_le_length (by simp), List.take_of_length_le (by simp)]
theorem run_append_full {P : Program} {W : World} {t ty e : TypeId} {size bytes : Nat} (el : Elem P t e size bytes) (ao : Option Addr) (n : Nat) (olds : List Value) (hsl : Sl W size (.slice ao n n) n olds) (ad : Addr) (m c : Nat) (news : List Value)
    (hx : Sl W size (.slice (some ad) m c) m news) (hm : 0 < m) (h47 : (n + m) * bytes ≤ 140737488355328) (h63 : n + m ≤ 9223372036854775807) :
    ∃ cap w', (Builtin.append_ #[t, t] ty #[.slice ao n n, .slice (some ad) m c]).run P W = .ok (.slice (some ⟨W.heap.size, 0, none⟩) (n + m) cap) w' ∧
      (∀ B, B ≤ W.heap.size → w'.ownsRow B e size (.slice (some ⟨W.heap.size, 0, none⟩) (n + m) cap) (n + m) (olds ++ news)) ∧ W.grownBy w' none := by
  obtain ⟨i, z, h2, h3, h4, h5, h6⟩ := el.info
  have hnews := sl_news hx
  have hl : news.length = m * size := by obtain ⟨_, _, _, _, _, _, h, _⟩ := hx; exact h
  have hlo : olds.length = n * size := by obtain ⟨_, _, _, _, _, _, h, _⟩ := hsl; exact h
  have hlen : (olds ++ news).length = (n + m) * size := by rw [List.length_append, hlo, hl, Nat.add_mul]
  subst h4
  subst h5
  have hgb : ∀ o, W.grownBy (W.drew.alloc o) none := fun o => ⟨rfl, rfl, rfl, by simp, fun k hk _ => heap_alloc_old W.drew _ hk⟩
  cases ao with
  | none =>
    have hn : n = 0 := by
      obtain ⟨ao', cap, e1, _, _, h, _, _⟩ := hsl
      simp at e1
      rw [e1.2]; exact h e1.1.symm
    subst hn
    have ho : olds = [] := List.length_eq_zero_iff.1 (by simpa using hlo)
    subst ho
    have hr := run_append_nil (P := P) W t ty e i z el.und h2 h3 ad m c news hl hnews hm (by omega) (by rw [Nat.zero_add] at h47; omega)
    rw [Nat.zero_add]
    refine ⟨_, _, hr, fun B hB => ?_, hgb _⟩
    rw [List.nil_append]
    exact grown_row W z h6 news hl hm (by unfold maxLen; omega) hB
  | some b =>
    have hr := run_append_grow (P := P) W t ty e i z el.und h2 h3 b n n olds hlo (sl_news hsl) ad m c news hl hnews (by omega) (by omega) (growslice_fits (by omega) h47)
    refine ⟨_, _, hr, fun B hB => ?_, hgb _⟩
    have e1 : olds.toArray ++ news.toArray = (olds ++ news).toArray := by simp
    rw [e1]
    exact grown_row W z h6 _ hlen (by omega) (by unfold maxLen; omega) hB
/-- append to a slice without room: at the operation. -/
theorem wp_append_full {P : Program} {o : Oper} {a : Act} {K : Act → World → Prop} {Q : Exit → Act → World → Prop} {W w0 : World} {B : Nat} {t e : TypeId} {size bytes : Nat} (el : Elem P t e size bytes) (s x : Operand)
    (ho : o.op = .call { callee := .builtin .append, args := #[s, x], argTypes := #[t, t] }) (ao : Option Addr) (n : Nat) (olds : List Value) (hs : a.eval s = .slice ao n n) (hsl : Sl W size (.slice ao n n) n olds) (ad : Addr) (m c : Nat) (news : List Value)
    (hx : a.eval x = .slice (some ad) m c) (hxl : Sl W size (.slice (some ad) m c) m news) (hm : 0 < m) (h47 : (n + m) * bytes ≤ 140737488355328) (h63 : n + m ≤ 9223372036854775807) (hbel : Below B w0 W) (hB : B ≤ W.heap.size)
    (h : ∀ cap w', (∀ B', B' ≤ W.heap.size → w'.ownsRow B' e size (.slice (some ⟨W.heap.size, 0, none⟩) (n + m) cap) (n + m) (olds ++ news)) → Below B w0 w' → W.grownBy w' none → K (a.put o.dst (.slice (some ⟨W.heap.size, 0, none⟩) (n + m) cap)) w') : o.wp P a W K Q := by
  obtain ⟨cap, w', hr, h2, h3⟩ := run_append_full (P := P) (ty := o.type) el ao n olds hsl ad m c news hxl hm h47 h63
  unfold Oper.wp execOp
  simp only [ho, resolve, invoke, builtin, Sem.run_bind, Sem.run_pure, Result.andThen_ok, List.map_toArray, List.map_cons, List.map_nil, hs, hx, hr]
  exact h cap w' h2 (Below.grown hbel h3 hB (fun k hk => by simp at hk)) h3
theorem wpList_append_full {P : Program} {ops : Array Oper} {rest : List Oper} {o : Oper} {a : Act} {Q : Exit → Act → World → Prop} {W w0 : World} {B : Nat} {t e : TypeId} {size bytes : Nat} (el : Elem P t e size bytes) (hgd : o.guard = none) (s x : Operand)
    (ho : o.op = .call { callee := .builtin .append, args := #[s, x], argTypes := #[t, t] }) (ao : Option Addr) (n : Nat) (olds : List Value) (hs : a.eval s = .slice ao n n) (hsl : Sl W size (.slice ao n n) n olds) (ad : Addr) (m c : Nat) (news : List Value)
    (hx : a.eval x = .slice (some ad) m c) (hxl : Sl W size (.slice (some ad) m c) m news) (hm : 0 < m) (h47 : (n + m) * bytes ≤ 140737488355328) (h63 : n + m ≤ 9223372036854775807) (hbel : Below B w0 W) (hB : B ≤ W.heap.size)
    (h : ∀ cap w', (∀ B', B' ≤ W.heap.size → w'.ownsRow B' e size (.slice (some ⟨W.heap.size, 0, none⟩) (n + m) cap) (n + m) (olds ++ news)) → Below B w0 w' → W.grownBy w' none → wpList P ops Q rest (a.put o.dst (.slice (some ⟨W.heap.size, 0, none⟩) (n + m) cap)) w') : wpList P ops Q (o :: rest) a W :=
  wpList_plain hgd fun _ hK => wp_append_full el s x ho ao n olds hs hsl ad m c news hx hxl hm h47 h63 hbel hB fun cap w' h2 h3 h4 => hK _ _ (h cap w' h2 h3 h4)
theorem step_append_full {P : Program} {ops : Array Oper} {o : Oper} {a : Act} {K : Act → World → Prop} {Q : Exit → Act → World → Prop} {E : Prop} {W w0 : World} {B : Nat} {t e : TypeId} {size bytes : Nat} (el : Elem P t e size bytes) (hgd : o.guard = none) (s x : Operand)
    (ho : o.op = .call { callee := .builtin .append, args := #[s, x], argTypes := #[t, t] }) (ao : Option Addr) (n : Nat) (olds : List Value) (hs : a.eval s = .slice ao n n) (hsl : Sl W size (.slice ao n n) n olds) (ad : Addr) (m c : Nat) (news : List Value)
    (hx : a.eval x = .slice (some ad) m c) (hxl : Sl W size (.slice (some ad) m c) m news) (hm : 0 < m) (h47 : (n + m) * bytes ≤ 140737488355328) (h63 : n + m ≤ 9223372036854775807) (hbel : Below B w0 W) (hB : B ≤ W.heap.size)
    (h : ∀ cap w', (∀ B', B' ≤ W.heap.size → w'.ownsRow B' e size (.slice (some ⟨W.heap.size, 0, none⟩) (n + m) cap) (n + m) (olds ++ news)) → Below B w0 w' → W.grownBy w' none → K (a.put o.dst (.slice (some ⟨W.heap.size, 0, none⟩) (n + m) cap)) w') :
    if Region.wanted o (yielded ops a.tmps) = true then Oper.wp P o a W K Q else E := by
  have hw : Region.wanted o (yielded ops a.tmps) = true := by simp [Region.wanted, hgd]
  rw [if_pos hw]
  exact wp_append_full el s x ho ao n olds hs hsl ad m c news hx hxl hm h47 h63 hbel hB h
end Go.Gh
