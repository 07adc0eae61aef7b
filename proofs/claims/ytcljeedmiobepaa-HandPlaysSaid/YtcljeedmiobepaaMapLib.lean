/-
  Maps of the call's own beside rows of the call's own.
-/
import Derived.Test.YtcljeedmiobepaaLib3
import Derived.Maps.OwnSet
import Derived.Maps.OwnOps
namespace Go.Gh
open Go.RowKit Go.WideShapes Go.Maps
set_option linter.unusedVariables false
section
variable {H : Type} {P : Program} {k : TypeId} {R : Value → Option (DataW H × List MemPlace)} {w w' : World} {b n : Nat} {D : DataW H}
theorem ownsMap_below (h : w.ownsMap P k R b n D) (hb : Below w.heap.size w w') : w'.ownsMap P k R b n D := by
  have hlt := h.lt
  obtain ⟨es, clock, h1, F, hs, hD⟩ := h
  exact ⟨es, clock, (hb.block b hlt).trans h1, F, hs, hD⟩
theorem ownsMap_belowB {B : Nat} (h : w.ownsMap P k R b n D) (hb : Below B w w') (hlt : b < B) : w'.ownsMap P k R b n D := by
  obtain ⟨es, clock, h1, F, hs, hD⟩ := h
  exact ⟨es, clock, (hb.block b hlt).trans h1, F, hs, hD⟩
theorem map_ne {B size m : Nat} {T : TypeId} {u : Value} {us : List Value} (h : w.ownsMap P k R b n D) (ho : w.ownsRow B T size u m us) : some b ≠ u.ownBlock := by
  intro he
  obtain ⟨es, clock, h1, F, hs, hD⟩ := h
  rcases ho.2 with ⟨rfl, _⟩ | ⟨g, cap, cur, rfl, _, hg, _⟩
  · simp [Value.ownBlock] at he
  · have : b = g := by simpa [Value.ownBlock] using he
    subst this
    rw [h1] at hg
    simp at hg
end
end Go.Gh
