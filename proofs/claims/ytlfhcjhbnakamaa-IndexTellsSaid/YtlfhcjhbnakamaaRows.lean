/-
  No cell of these rows narrows 'for every input' (looked for: loops, veiled, ifaces, maps, wideKeys, modest, calm, conditions, laid).
  DERIVED. THE GIVEN ROWS OF THIS SEAT. 5 by the template 'for every input the law returns true; each argument reads behind the call as it read before'; 0 by the template 'total and deterministic' (their statements: YtlfhcjhbnakamaaTotals.lean).
  GIVEN WITH THE SEED: the statements are not yours to turn. If you find one false, say at which input.
  Laid BY PROGRAM, IN A SANDBOX (cutbox-rows.mjs): the forced cells as the released guide's own fill.sh prints them over the translation 50536ed69663b4ca… (all of the seat's roots in one cut). By AI agents, Wed Nov 11 2026. No macro, syntax, notation, axiom, sorry.
-/
import Derived.Test.YtlfhcjhbnakamaaChecked
import GoSem.Claim
import GoSem.ClaimJoined
import GoSem.ClaimMapViews
import Derived.JoinedTies
import Derived.KernelRfl
namespace Go.Proofs.Ytlfhcjhbnakamaa
/- THE CELL 'sum', in the pinned program and in every row, IS THE sha256 OF THE DUMP (.gsa) THAT YtlfhcjhbnakamaaProg.lean LOADS. Nothing in Lean hashes anything: it is a label: what it is worth is what the hold of that sum in a sandbox is worth. -/
noncomputable def Try.pinned : Pinned := { name := "ytlfhcjhbnakamaa", sum := "50536ed69663b4cab5da9c76d8e28504f23cfcf8ea6e0941d628c8167b85210b", checked := Try.checked }
namespace Rows
def none {H : Type} : Left H := { results := [], args := [] }

/-- 'gaugehouselaw.BitsTells': WHATEVER THE INPUT: true; the input reads as it did. -/
def bitsTellsSpec : ChangeSpec := { name := "bitsTells", fn := fun _ => fun
  | [d1, d2, d3] => { results := [.lit (.bool true)], args := [d1, d2, d3] }
  | _ => none }
def bitsTellsRow : OpenClaim := { program := "ytlfhcjhbnakamaa", sum := "50536ed69663b4cab5da9c76d8e28504f23cfcf8ea6e0941d628c8167b85210b", func := "gaugehouse/gaugehouselaw.BitsTells", spec := "bitsTells", recurses := true, plainKeys := false, apart := false }
def BitsTellsSaid : Prop := bitsTellsRow.holds Try.pinned (OpenSpec.ofChange bitsTellsSpec)

/-- ITS FALSE NEIGHBOUR: 'it returns false'. Refute it at one input. -/
def bitsTellsWrong : ChangeSpec := { name := "bitsTells", fn := fun _ => fun
  | [d1, d2, d3] => { results := [.lit (.bool false)], args := [d1, d2, d3] }
  | _ => none }
def BitsTellsWrongFalsely : Prop := bitsTellsRow.holds Try.pinned (OpenSpec.ofChange bitsTellsWrong)

/-- 'gaugehouselaw.HashTells': WHATEVER THE INPUT: true; the input reads as it did. -/
def hashTellsSpec : ChangeSpec := { name := "hashTells", fn := fun _ => fun
  | [d1, d2] => { results := [.lit (.bool true)], args := [d1, d2] }
  | _ => none }
def hashTellsRow : OpenClaim := { program := "ytlfhcjhbnakamaa", sum := "50536ed69663b4cab5da9c76d8e28504f23cfcf8ea6e0941d628c8167b85210b", func := "gaugehouse/gaugehouselaw.HashTells", spec := "hashTells", plainKeys := false, apart := false }
def HashTellsSaid : Prop := hashTellsRow.holds Try.pinned (OpenSpec.ofChange hashTellsSpec)

/-- ITS FALSE NEIGHBOUR: 'it returns false'. Refute it at one input. -/
def hashTellsWrong : ChangeSpec := { name := "hashTells", fn := fun _ => fun
  | [d1, d2] => { results := [.lit (.bool false)], args := [d1, d2] }
  | _ => none }
def HashTellsWrongFalsely : Prop := hashTellsRow.holds Try.pinned (OpenSpec.ofChange hashTellsWrong)

/-- 'gaugehouselaw.IndexSets': WHATEVER THE INPUT: true; the input reads as it did. -/
def indexSetsSpec : ChangeSpec := { name := "indexSets", fn := fun _ => fun
  | [d1, d2, d3] => { results := [.lit (.bool true)], args := [d1, d2, d3] }
  | _ => none }
def indexSetsRow : OpenClaim := { program := "ytlfhcjhbnakamaa", sum := "50536ed69663b4cab5da9c76d8e28504f23cfcf8ea6e0941d628c8167b85210b", func := "gaugehouse/gaugehouselaw.IndexSets", spec := "indexSets", recurses := true, plainKeys := false, apart := false }
def IndexSetsSaid : Prop := indexSetsRow.holds Try.pinned (OpenSpec.ofChange indexSetsSpec)

/-- ITS FALSE NEIGHBOUR: 'it returns false'. Refute it at one input. -/
def indexSetsWrong : ChangeSpec := { name := "indexSets", fn := fun _ => fun
  | [d1, d2, d3] => { results := [.lit (.bool false)], args := [d1, d2, d3] }
  | _ => none }
def IndexSetsWrongFalsely : Prop := indexSetsRow.holds Try.pinned (OpenSpec.ofChange indexSetsWrong)

/-- 'gaugehouselaw.LeastTells': WHATEVER THE INPUT: true; the input reads as it did. -/
def leastTellsSpec : ChangeSpec := { name := "leastTells", fn := fun _ => fun
  | [d1, d2, d3, d4] => { results := [.lit (.bool true)], args := [d1, d2, d3, d4] }
  | _ => none }
def leastTellsRow : OpenClaim := { program := "ytlfhcjhbnakamaa", sum := "50536ed69663b4cab5da9c76d8e28504f23cfcf8ea6e0941d628c8167b85210b", func := "gaugehouse/gaugehouselaw.LeastTells", spec := "leastTells", recurses := true, named := ["math/bits.divideError", "math/bits.overflowError"], plainKeys := false, apart := false }
def LeastTellsSaid : Prop := leastTellsRow.holds Try.pinned (OpenSpec.ofChange leastTellsSpec)

/-- ITS FALSE NEIGHBOUR: 'it returns false'. Refute it at one input. -/
def leastTellsWrong : ChangeSpec := { name := "leastTells", fn := fun _ => fun
  | [d1, d2, d3, d4] => { results := [.lit (.bool false)], args := [d1, d2, d3, d4] }
  | _ => none }
def LeastTellsWrongFalsely : Prop := leastTellsRow.holds Try.pinned (OpenSpec.ofChange leastTellsWrong)

/-- 'gaugehouselaw.IndexTells': WHATEVER THE INPUT: true; the input reads as it did. -/
def indexTellsSpec : ChangeSpec := { name := "indexTells", fn := fun _ => fun
  | [d1, d2, d3] => { results := [.lit (.bool true)], args := [d1, d2, d3] }
  | _ => none }
def indexTellsRow : OpenClaim := { program := "ytlfhcjhbnakamaa", sum := "50536ed69663b4cab5da9c76d8e28504f23cfcf8ea6e0941d628c8167b85210b", func := "gaugehouse/gaugehouselaw.IndexTells", spec := "indexTells", inPlace := ["internal/bytealg.IndexByteString", "internal/bytealg.IndexString"], unfollowed := true, recurses := true, named := ["internal/bytealg.MaxLen"], plainKeys := false, apart := false }
def IndexTellsSaid : Prop := indexTellsRow.holds Try.pinned (OpenSpec.ofChange indexTellsSpec)

/-- ITS FALSE NEIGHBOUR: 'it returns false'. Refute it at one input. -/
def indexTellsWrong : ChangeSpec := { name := "indexTells", fn := fun _ => fun
  | [d1, d2, d3] => { results := [.lit (.bool false)], args := [d1, d2, d3] }
  | _ => none }
def IndexTellsWrongFalsely : Prop := indexTellsRow.holds Try.pinned (OpenSpec.ofChange indexTellsWrong)

/- THE SECOND FORM. 'bulk': how many values and letters a reading holds, each counted each time it is reached (what is shared counts as often as it is met; a slice's spare places count too). A statement '..UptoSaid' is the law's where the arguments, and the package variables that the reading takes, are together of bulk at most 1048576: NARROWER than '..Said'. Prove '..Said' where nothing that the law and all that it calls make is longer than what came in: it says more and counts as full. Else prove '..UptoSaid'. A law counts once. -/
mutual
def uptoBulk {H : Type} : DataW H → Nat
  | .lit (.string bytes) => bytes.length + 1
  | .lit _ => 1
  | .nil => 1
  | .ptr d => uptoBulk d + 1
  | .slice elems spare => uptoBulkAll elems + uptoBulkAll spare + 1
  | .agg parts => uptoBulkAll parts + 1
  | .iface _ d => uptoBulk d + 1
  | .map entries => uptoBulkEntries entries + 1
  | .held _ => 1
def uptoBulkAll {H : Type} : List (DataW H) → Nat
  | [] => 0
  | d :: r => uptoBulk d + uptoBulkAll r
def uptoBulkEntries {H : Type} : List (Lit × DataW H) → Nat
  | [] => 0
  | x :: r => uptoBulkEntry x + uptoBulkEntries r
def uptoBulkEntry {H : Type} : Lit × DataW H → Nat
  | (.string bytes, d) => bytes.length + uptoBulk d + 1
  | (_, d) => uptoBulk d + 1
 end
def uptoSmall : (H : Type) → List (DataW H) → Bool := fun _ ds => decide (uptoBulkAll ds ≤ 1048576)
def OpenSpec.upto (s : _root_.Go.ChangeSpec) : _root_.Go.OpenSpec := { _root_.Go.OpenSpec.ofChange s with cond := some uptoSmall }

/-- 'gaugehouselaw.BitsTells', WHERE WHAT IT READS IS OF BULK AT MOST 1048576: true; the input reads as it did. -/
def bitsTellsUptoRow : OpenClaim := { program := "ytlfhcjhbnakamaa", sum := "50536ed69663b4cab5da9c76d8e28504f23cfcf8ea6e0941d628c8167b85210b", func := "gaugehouse/gaugehouselaw.BitsTells", spec := "bitsTells", recurses := true, plainKeys := false, apart := false, narrowed := true }
def BitsTellsUptoSaid : Prop := bitsTellsUptoRow.holds Try.pinned (OpenSpec.upto bitsTellsSpec)

/-- 'gaugehouselaw.HashTells', WHERE WHAT IT READS IS OF BULK AT MOST 1048576: true; the input reads as it did. -/
def hashTellsUptoRow : OpenClaim := { program := "ytlfhcjhbnakamaa", sum := "50536ed69663b4cab5da9c76d8e28504f23cfcf8ea6e0941d628c8167b85210b", func := "gaugehouse/gaugehouselaw.HashTells", spec := "hashTells", plainKeys := false, apart := false, narrowed := true }
def HashTellsUptoSaid : Prop := hashTellsUptoRow.holds Try.pinned (OpenSpec.upto hashTellsSpec)

/-- 'gaugehouselaw.IndexSets', WHERE WHAT IT READS IS OF BULK AT MOST 1048576: true; the input reads as it did. -/
def indexSetsUptoRow : OpenClaim := { program := "ytlfhcjhbnakamaa", sum := "50536ed69663b4cab5da9c76d8e28504f23cfcf8ea6e0941d628c8167b85210b", func := "gaugehouse/gaugehouselaw.IndexSets", spec := "indexSets", recurses := true, plainKeys := false, apart := false, narrowed := true }
def IndexSetsUptoSaid : Prop := indexSetsUptoRow.holds Try.pinned (OpenSpec.upto indexSetsSpec)

/-- 'gaugehouselaw.LeastTells', WHERE WHAT IT READS IS OF BULK AT MOST 1048576: true; the input reads as it did. -/
def leastTellsUptoRow : OpenClaim := { program := "ytlfhcjhbnakamaa", sum := "50536ed69663b4cab5da9c76d8e28504f23cfcf8ea6e0941d628c8167b85210b", func := "gaugehouse/gaugehouselaw.LeastTells", spec := "leastTells", recurses := true, named := ["math/bits.divideError", "math/bits.overflowError"], plainKeys := false, apart := false, narrowed := true }
def LeastTellsUptoSaid : Prop := leastTellsUptoRow.holds Try.pinned (OpenSpec.upto leastTellsSpec)

/-- 'gaugehouselaw.IndexTells', WHERE WHAT IT READS IS OF BULK AT MOST 1048576: true; the input reads as it did. -/
def indexTellsUptoRow : OpenClaim := { program := "ytlfhcjhbnakamaa", sum := "50536ed69663b4cab5da9c76d8e28504f23cfcf8ea6e0941d628c8167b85210b", func := "gaugehouse/gaugehouselaw.IndexTells", spec := "indexTells", inPlace := ["internal/bytealg.IndexByteString", "internal/bytealg.IndexString"], unfollowed := true, recurses := true, named := ["internal/bytealg.MaxLen"], plainKeys := false, apart := false, narrowed := true }
def IndexTellsUptoSaid : Prop := indexTellsUptoRow.holds Try.pinned (OpenSpec.upto indexTellsSpec)

end Rows
end Go.Proofs.Ytlfhcjhbnakamaa
