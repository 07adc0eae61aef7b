/-
  append to a row of one's own, and where the row lies then.
-/
import Derived.Test.YtcljeedmiobepaaIns
import Derived.Deep.AppendLies
namespace Go.Gh
open Go.RowKit
set_option linter.unusedVariables false
theorem app_liesK {P : Program} {ops : Array Oper} {rest : List Oper} {o : Oper} {a : Act} {Q : Exit → Act → World → Prop} {W : World} {B : Nat} {t e : TypeId} {size bytes n m : Nat} {v fv : Value} {xs news : List Value} (el : Elem P t e size bytes) (hgd : o.guard = none) (s x : Operand)
    (ho : o.op = .call { callee := .builtin .append, args := #[s, x], argTypes := #[t, t] }) (hown : W.ownsRow B e size v n xs) (hs : a.eval s = v) (hxv : a.eval x = fv) (hx : Sl W size fv m news) (h1 : ∀ u ∈ news, u.oneCell' = true)
    (hm : 0 < m) (h47 : (n + m) * bytes ≤ 140737488355328) (h63 : n + m ≤ 9223372036854775807) (hB : B ≤ W.heap.size)
    (h : ∀ g cap w', w'.ownsRow B e size (.slice (some ⟨g, 0, none⟩) (n + m) cap) (n + m) (xs ++ news) → W.grownBy w' v.ownBlock → (v.ownBlock = some g ∨ g = W.heap.size) → g < w'.heap.size → wpList P ops Q rest (a.put o.dst (.slice (some ⟨g, 0, none⟩) (n + m) cap)) w') : wpList P ops Q (o :: rest) a W := by
  obtain ⟨i, z, h2, h3, h4, h5, h6⟩ := el.info
  obtain ⟨ao, cap, rfl, g2, g3, g4, g5, g6⟩ := hx
  obtain ⟨b, off, rfl, hc⟩ := g6 hm
  exact wpList_append_lies W hgd s x t ho B e i z size bytes el.und h2 h3 h4 h5 h6 el.pos v n xs hs hown _ m cap news hxv g5 (fun j u hu => by rw [addr_add]; exact hc j u hu) h1 hm (by unfold maxLen; exact h63) h47 hB _ rfl h
end Go.Gh
