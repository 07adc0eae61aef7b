/-
  append in bulk: up to a bound near 2^48 bytes.
-/
import Derived.Test.YtcljeedmiobepaaLib6
import Derived.Deep.DeepAppendWide
namespace Go.Gh
open Go.RowKit
set_option linter.unusedVariables false
/-- So many elements of so many bytes can be appended to. -/
def Fit (n bytes : Nat) : Prop := (n + n / 4 + 192) * bytes ≤ 281474976710656
theorem Fit.le {n bytes : Nat} (h : Fit n bytes) : n * bytes ≤ 281474976710656 := Nat.le_trans (Nat.mul_le_mul_right _ (by omega)) h
theorem Fit.mono {n m bytes : Nat} (h : Fit n bytes) (hm : m ≤ n) : Fit m bytes := Nat.le_trans (Nat.mul_le_mul_right _ (by omega)) h
theorem run_append_full_w {P : Program} {W : World} {t ty e : TypeId} {size bytes : Nat} (el : Elem P t e size bytes) (ao : Option Addr) (n : Nat) (olds : List Value) (hsl : Sl W size (.slice ao n n) n olds) (ad : Addr) (m c : Nat) (news : List Value)
    (hx : Sl W size (.slice (some ad) m c) m news) (hm : 0 < m) (h47 : Fit (n + m) bytes) (h63 : n + m ≤ 9223372036854775807) :
    ∃ cap w', (Builtin.append_ #[t, t] ty #[.slice ao n n, .slice (some ad) m c]).run P W = .ok (.slice (some ⟨W.heap.size, 0, none⟩) (n + m) cap) w' ∧
      (∀ B, B ≤ W.heap.size → w'.ownsRow B e size (.slice (some ⟨W.heap.size, 0, none⟩) (n + m) cap) (n + m) (olds ++ news)) ∧ W.grownBy w' none := by
  obtain ⟨i, z, h2, h3, h4, h5, h6⟩ := el.info
  have hnews := sl_news hx
  have hl : news.length = m * size := by obtain ⟨_, _, _, _, _, _, h, _⟩ := hx; exact h
  have hlo : olds.length = n * size := by obtain ⟨_, _, _, _, _, _, h, _⟩ := hsl; exact h
  have hlen : (olds ++ news).length = (n + m) * size := by rw [List.length_append, hlo, hl, Nat.add_mul]
  subst h4
  subst h5
  have hgb : ∀ o, W.grownBy (W.drew.alloc o) none := fun o => ⟨rfl, rfl, rfl, by simp, fun k hk _ => heap_alloc_old W.drew _ hk⟩
  cases ao with
  | none =>
    have hn : n = 0 := by
      obtain ⟨ao', cap, e1, _, _, h, _, _⟩ := hsl
      simp at e1
      rw [e1.2]; exact h e1.1.symm
    subst hn
    have ho : olds = [] := List.length_eq_zero_iff.1 (by simpa using hlo)
    subst ho
    have hr := run_append_nil (P := P) W t ty e i z el.und h2 h3 ad m c news hl hnews hm (by omega) (by rw [Nat.zero_add] at h47; exact h47.le)
    rw [Nat.zero_add]
    refine ⟨_, _, hr, fun B hB => ?_, hgb _⟩
    rw [List.nil_append]
    exact grown_row W z h6 news hl hm (by unfold maxLen; omega) hB
  | some b =>
    have hr := run_append_grow (P := P) W t ty e i z el.und h2 h3 b n n olds hlo (sl_news hsl) ad m c news hl hnews (by omega) (by omega) (growslice_fits_wide (by omega) h47)
    refine ⟨_, _, hr, fun B hB => ?_, hgb _⟩
    have e1 : olds.toArray ++ news.toArray = (olds ++ news).toArray := by simp
    rw [e1]
    exact grown_row W z h6 _ hlen (by omega) (by unfold maxLen; omega) hB
theorem wp_append_full_w {P : Program} {o : Oper} {a : Act} {K : Act → World → Prop} {Q : Exit → Act → World → Prop} {W w0 : World} {B : Nat} {t e : TypeId} {size bytes : Nat} (el : Elem P t e size bytes) (s x : Operand)
    (ho : o.op = .call { callee := .builtin .append, args := #[s, x], argTypes := #[t, t] }) (ao : Option Addr) (n : Nat) (olds : List Value) (hs : a.eval s = .slice ao n n) (hsl : Sl W size (.slice ao n n) n olds) (ad : Addr) (m c : Nat) (news : List Value)
    (hx : a.eval x = .slice (some ad) m c) (hxl : Sl W size (.slice (some ad) m c) m news) (hm : 0 < m) (h47 : Fit (n + m) bytes) (h63 : n + m ≤ 9223372036854775807) (hbel : Below B w0 W) (hB : B ≤ W.heap.size)
    (h : ∀ cap w', (∀ B', B' ≤ W.heap.size → w'.ownsRow B' e size (.slice (some ⟨W.heap.size, 0, none⟩) (n + m) cap) (n + m) (olds ++ news)) → Below B w0 w' → W.grownBy w' none → K (a.put o.dst (.slice (some ⟨W.heap.size, 0, none⟩) (n + m) cap)) w') : o.wp P a W K Q := by
  obtain ⟨cap, w', hr, h2, h3⟩ := run_append_full_w (P := P) (ty := o.type) el ao n olds hsl ad m c news hxl hm h47 h63
  unfold Oper.wp execOp
  simp only [ho, resolve, invoke, builtin, Sem.run_bind, Sem.run_pure, Result.andThen_ok, List.map_toArray, List.map_cons, List.map_nil, hs, hx, hr]
  exact h cap w' h2 (Below.grown hbel h3 hB (fun k hk => by simp at hk)) h3
theorem step_append_full_w {P : Program} {ops : Array Oper} {o : Oper} {a : Act} {K : Act → World → Prop} {Q : Exit → Act → World → Prop} {E : Prop} {W w0 : World} {B : Nat} {t e : TypeId} {size bytes : Nat} (el : Elem P t e size bytes) (hgd : o.guard = none) (s x : Operand)
    (ho : o.op = .call { callee := .builtin .append, args := #[s, x], argTypes := #[t, t] }) (ao : Option Addr) (n : Nat) (olds : List Value) (hs : a.eval s = .slice ao n n) (hsl : Sl W size (.slice ao n n) n olds) (ad : Addr) (m c : Nat) (news : List Value)
    (hx : a.eval x = .slice (some ad) m c) (hxl : Sl W size (.slice (some ad) m c) m news) (hm : 0 < m) (h47 : Fit (n + m) bytes) (h63 : n + m ≤ 9223372036854775807) (hbel : Below B w0 W) (hB : B ≤ W.heap.size)
    (h : ∀ cap w', (∀ B', B' ≤ W.heap.size → w'.ownsRow B' e size (.slice (some ⟨W.heap.size, 0, none⟩) (n + m) cap) (n + m) (olds ++ news)) → Below B w0 w' → W.grownBy w' none → K (a.put o.dst (.slice (some ⟨W.heap.size, 0, none⟩) (n + m) cap)) w') :
    if Region.wanted o (yielded ops a.tmps) = true then Oper.wp P o a W K Q else E := by
  have hw : Region.wanted o (yielded ops a.tmps) = true := by simp [Region.wanted, hgd]
  rw [if_pos hw]
  exact wp_append_full_w el s x ho ao n olds hs hsl ad m c news hx hxl hm h47 h63 hbel hB h
theorem run_append_any_w {P : Program} {W : World} {B : Nat} {t ty e : TypeId} {size bytes n m c : Nat} {ao : Option Addr} {v : Value} {xs news : List Value} (el : Elem P t e size bytes) (hown : W.ownsRow B e size v n xs) (hx : Sl W size (.slice ao m c) m news) (h1 : ∀ u ∈ news, u.oneCell' = true)
    (hn : 0 < n) (h47 : Fit (n + m) bytes) (h63 : n + m ≤ 9223372036854775807) (hB : B ≤ W.heap.size) :
    ∃ g cap w', (Builtin.append_ #[t, t] ty #[v, .slice ao m c]).run P W = .ok (.slice (some ⟨g, 0, none⟩) (n + m) cap) w' ∧ w'.ownsRow B e size (.slice (some ⟨g, 0, none⟩) (n + m) cap) (n + m) (xs ++ news) ∧ W.grownBy w' v.ownBlock := by
  obtain ⟨i, z, h2, h3, h4, h5, h6⟩ := el.info
  have hl : news.length = m * size := by obtain ⟨_, _, _, _, _, _, h, _⟩ := hx; exact h
  cases ao with
  | none =>
    obtain ⟨rfl, rfl⟩ : m = 0 ∧ c = 0 := by
      obtain ⟨ao', cap, e1, h, _, h', _, _⟩ := hx
      simp at e1
      obtain ⟨rfl, rfl⟩ := e1
      have := h' rfl
      omega
    have hnil : news = [] := List.length_eq_zero_iff.1 (by simpa using hl)
    subst hnil
    obtain ⟨g, cap, rfl, _, _⟩ := hown.form hn
    have hr := run_append_owned_none (P := P) (w := W) B t ty e i size el.und h2 _ n xs hown
    exact ⟨g, cap, W, hr, by rw [List.append_nil]; exact hown, ⟨rfl, rfl, rfl, Nat.le_refl _, fun _ _ _ => rfl⟩⟩
  | some ad =>
    obtain ⟨v', w', hr, h7, h8, _⟩ := run_append_own_wide (P := P) W B t ty e i z size bytes el.und h2 h3 h4 h5 h6 el.pos v n xs hown ad m c news hl (sl_news hx) h1 (by unfold maxLen; exact h63) h47 hB
    obtain ⟨g, cap, rfl, _, _⟩ := h7.form (by omega)
    exact ⟨g, cap, w', hr, h7, h8⟩
theorem wp_append_any_w {P : Program} {o : Oper} {a : Act} {K : Act → World → Prop} {Q : Exit → Act → World → Prop} {W : World} {B : Nat} {t e : TypeId} {size bytes n m c : Nat} {ao : Option Addr} {v : Value} {xs news : List Value} (el : Elem P t e size bytes) (s x : Operand)
    (ho : o.op = .call { callee := .builtin .append, args := #[s, x], argTypes := #[t, t] }) (hown : W.ownsRow B e size v n xs) (hs : a.eval s = v) (hxv : a.eval x = .slice ao m c) (hx : Sl W size (.slice ao m c) m news) (h1 : ∀ u ∈ news, u.oneCell' = true)
    (hn : 0 < n) (h47 : Fit (n + m) bytes) (h63 : n + m ≤ 9223372036854775807) (hB : B ≤ W.heap.size)
    (h : ∀ g cap w', w'.ownsRow B e size (.slice (some ⟨g, 0, none⟩) (n + m) cap) (n + m) (xs ++ news) → W.grownBy w' v.ownBlock → K (a.put o.dst (.slice (some ⟨g, 0, none⟩) (n + m) cap)) w') : o.wp P a W K Q := by
  obtain ⟨g, cap, w', hr, h2, h3⟩ := run_append_any_w (P := P) (ty := o.type) el hown hx h1 hn h47 h63 hB
  unfold Oper.wp execOp
  simp only [ho, resolve, invoke, builtin, Sem.run_bind, Sem.run_pure, Result.andThen_ok, List.map_toArray, List.map_cons, List.map_nil, hs, hxv, hr]
  exact h g cap w' h2 h3
theorem step_append_any_w {P : Program} {ops : Array Oper} {o : Oper} {a : Act} {K : Act → World → Prop} {Q : Exit → Act → World → Prop} {E : Prop} {W : World} {B : Nat} {t e : TypeId} {size bytes n m c : Nat} {ao : Option Addr} {v : Value} {xs news : List Value} (el : Elem P t e size bytes) (hgd : o.guard = none) (s x : Operand)
    (ho : o.op = .call { callee := .builtin .append, args := #[s, x], argTypes := #[t, t] }) (hown : W.ownsRow B e size v n xs) (hs : a.eval s = v) (hxv : a.eval x = .slice ao m c) (hx : Sl W size (.slice ao m c) m news) (h1 : ∀ u ∈ news, u.oneCell' = true)
    (hn : 0 < n) (h47 : Fit (n + m) bytes) (h63 : n + m ≤ 9223372036854775807) (hB : B ≤ W.heap.size)
    (h : ∀ g cap w', w'.ownsRow B e size (.slice (some ⟨g, 0, none⟩) (n + m) cap) (n + m) (xs ++ news) → W.grownBy w' v.ownBlock → K (a.put o.dst (.slice (some ⟨g, 0, none⟩) (n + m) cap)) w') :
    if Region.wanted o (yielded ops a.tmps) = true then Oper.wp P o a W K Q else E := by
  have hw : Region.wanted o (yielded ops a.tmps) = true := by simp [Region.wanted, hgd]
  rw [if_pos hw]
  exact wp_append_any_w el s x ho hown hs hxv hx h1 hn h47 h63 hB h
theorem wp_append_lit_w {P : Program} {o : Oper} {a : Act} {K : Act → World → Prop} {Q : Exit → Act → World → Prop} {W0 : World} {t e : TypeId} {size bytes m c : Nat} {ao : Option Addr} {news : List Value} (cells : List Value) (el : Elem P t e size bytes) (s x : Operand)
    (ho : o.op = .call { callee := .builtin .append, args := #[s, x], argTypes := #[t, t] }) (hs : a.eval s = .slice (some ⟨W0.heap.size, 0, none⟩) 1 1) (hxv : a.eval x = .slice ao m c) (hx : Sl W0 size (.slice ao m c) m news) (hl : cells.length = size) (h1 : ∀ u ∈ news, u.oneCell' = true)
    (h47 : Fit (1 + m) bytes) (h63 : 1 + m ≤ 9223372036854775807)
    (h : ∀ g cap w', w'.ownsRow W0.heap.size e size (.slice (some ⟨g, 0, none⟩) (1 + m) cap) (1 + m) (cells ++ news) → Below W0.heap.size W0 w' → K (a.put o.dst (.slice (some ⟨g, 0, none⟩) (1 + m) cap)) w') : o.wp P a (W0.alloc (.cells cells.toArray e)) K Q := by
  have hown : (W0.alloc (.cells cells.toArray e)).ownsRow W0.heap.size e size (.slice (some ⟨W0.heap.size, 0, none⟩) 1 1) 1 cells := own_build W0 cells (Nat.le_refl _) (by rw [Nat.one_mul]; exact hl) (by decide)
  refine wp_append_any_w el s x ho hown hs hxv (hx.alloc _) h1 (by decide) h47 h63 (by simp) ?_
  intro g cap w' h2 h3
  exact h g cap w' h2 (below_own hown ((Below.refl _ W0).alloc (Nat.le_refl _) _) (Nat.le_refl _) (by simp) h3)
theorem step_append_lit_w {P : Program} {ops : Array Oper} {o : Oper} {a : Act} {K : Act → World → Prop} {Q : Exit → Act → World → Prop} {E : Prop} {W0 : World} {t e : TypeId} {size bytes m c : Nat} {ao : Option Addr} {news : List Value} (cells : List Value) (el : Elem P t e size bytes) (hgd : o.guard = none) (s x : Operand)
    (ho : o.op = .call { callee := .builtin .append, args := #[s, x], argTypes := #[t, t] }) (hs : a.eval s = .slice (some ⟨W0.heap.size, 0, none⟩) 1 1) (hxv : a.eval x = .slice ao m c) (hx : Sl W0 size (.slice ao m c) m news) (hl : cells.length = size) (h1 : ∀ u ∈ news, u.oneCell' = true)
    (h47 : Fit (1 + m) bytes) (h63 : 1 + m ≤ 9223372036854775807)
    (h : ∀ g cap w', w'.ownsRow W0.heap.size e size (.slice (some ⟨g, 0, none⟩) (1 + m) cap) (1 + m) (cells ++ news) → Below W0.heap.size W0 w' → K (a.put o.dst (.slice (some ⟨g, 0, none⟩) (1 + m) cap)) w') :
    if Region.wanted o (yielded ops a.tmps) = true then Oper.wp P o a (W0.alloc (.cells cells.toArray e)) K Q else E := by
  have hw : Region.wanted o (yielded ops a.tmps) = true := by simp [Region.wanted, hgd]
  rw [if_pos hw]
  exact wp_append_lit_w cells el s x ho hs hxv hx hl h1 h47 h63 h
end Go.Gh
