/-
  An argument of type api.Bits, opened.
-/
import Derived.Test.YtmbmognhbljliaaDoorBits4
import Derived.Lib.SmallJoins
namespace Go.Proofs.YtmbmognhbljliaaDoor.Bits
open Go.RowKit Go.ChangeShapes Go.WideShapes Go.ChangeAt Go.Joins Go.Gh
set_option linter.unusedVariables false
def IsBits (w : World) (v : Value) : Prop := ∃ l N, BitsV w v l N
theorem bytes_of {l : List Int} (h : ∀ z ∈ l, (Lit.int .u8 z).wf = true) : Bytes l := fun z hz => wf_u8 (h z hz)
section
variable {H : Type} {enc : TypeId × Value → H} {W : World} {base b0 : Nat} {r : Reach} {spare : Nat → Bool} {held : Bool} {v : Value} {d : DataW H} {ps : List MemPlace}
set_option maxRecDepth 100000 in
theorem cellsBits : Tryd.prog.cellsOf 25 = 2 := by kernel_rfl
set_option maxRecDepth 100000 in
theorem isBits_of (hv : Value.okWide Tryd.prog W r b0 25 v) (hd : DataW.Trod enc Tryd.prog W base spare held 25 v d ps) (hs : ∀ n ∈ d.weights Tryd.prog 25, n ≤ reachBytes) : IsBits W v := by
  obtain ⟨v0, v1, y0, y1, n, rfl, rfl, rfl, h0, h1⟩ := open_agg2 Tryd.underlying25 (by kernel_rfl) cellsBits hv hd
  have hs2 : ∀ n ∈ y0.1.weights Tryd.prog 23, n ≤ reachBytes := by
    intro m hm
    refine hs m ?_
    unfold DataW.weights
    rw [Tryd.underlying25]
    exact DataW.weights_mem_each (j := 0) rfl rfl m hm
  obtain ⟨len, l, hsl, hwf, hlen⟩ := sl_ints Tryd.underlying23 Tryd.underlying5 (by kernel_rfl) h0 hs2
  obtain ⟨N, hN, _, hNw⟩ := DataW.trod_int Tryd.underlying3 h1
  obtain rfl : v1 = .int .i64 N := by simpa using hN
  have hNb := wf_i64 hNw
  exact ⟨l, N, ⟨v0, len, rfl, hsl, bytes_of hwf, hwf, reach_le hlen (of_decide_eq_true (by kernel_rfl)), hNb.1, by omega⟩⟩
end
end Go.Proofs.YtmbmognhbljliaaDoor.Bits
