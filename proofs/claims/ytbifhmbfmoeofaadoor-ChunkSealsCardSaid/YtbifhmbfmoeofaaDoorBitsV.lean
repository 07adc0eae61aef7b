/-
  What one does with a value of api.Bits: it is owned, it lies below, it is zero.
-/
import Derived.Test.YtbifhmbfmoeofaaDoorBits4
import Derived.Test.YtbifhmbfmoeofaaDoorBits6
namespace Go.Proofs.YtbifhmbfmoeofaaDoor.Bits
open Go.RowKit Go.Gh Go.WideShapes
set_option linter.unusedVariables false

theorem sameB_one (L : List Int) (N : Int) : sameB L L N N = true := decide_eq_true ⟨rfl, rfl⟩
theorem u8_of_bytes {l : List Int} (h : Bytes l) : ∀ z ∈ l, (Lit.int .u8 z).wf = true := by
  intro z hz
  have := h z hz
  simp [Lit.wf, IntKind.min, IntKind.max, IntKind.signed, IntKind.bits]
  omega
theorem bv_own {w : World} {B : Nat} {b : Value} {L : List Int} {N : Int} (h : w.ownsRow B 5 1 b L.length (L.map (Value.int .u8))) (hL : Bytes L) (hl : L.length ≤ 140737488355328) (hN0 : -9223372036854775808 ≤ N) (hN1 : N ≤ 9223372036854775807) : BitsV w (.agg #[b, .int .i64 N]) L N :=
  ⟨b, _, rfl, own_sl h, hL, u8_of_bytes hL, hl, hN0, hN1⟩
theorem bv_below {w w' : World} {v : Value} {L : List Int} {N : Int} (h : BitsV w v L N) (hb : Below w.heap.size w w') : BitsV w' v L N := by
  obtain ⟨b, n, h1, h2, h3⟩ := h
  exact ⟨b, n, h1, h2.below hb, h3⟩
theorem bv_zero (w : World) : BitsV w (.agg #[.slice none 0 0, .int .i64 0]) [] 0 :=
  ⟨_, 0, rfl, ⟨none, 0, rfl, Nat.le_refl _, Nat.zero_le _, fun _ => rfl, rfl, fun h => absurd h (Nat.lt_irrefl _)⟩, by intro z hz; simp at hz, by intro z hz; simp at hz, by decide, by decide, by decide⟩
end Go.Proofs.YtbifhmbfmoeofaaDoor.Bits
