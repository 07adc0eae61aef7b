/-
  No cell of these rows narrows 'for every input' (looked for: loops, veiled, ifaces, maps, wideKeys, modest, calm, conditions, laid).
  DERIVED. THE GIVEN ROWS OF THIS SEAT. 9 by the template 'for every input the law returns true; each argument reads behind the call as it read before'; 0 by the template 'total and deterministic' (their statements: YtmbmognhbljliaaTotals.lean).
  GIVEN WITH THE SEED: the statements are not yours to turn. If you find one false, say at which input.
  Laid BY PROGRAM, IN A SANDBOX (cutbox-rows.mjs): the forced cells as the released guide's own fill.sh prints them over the translation a07a5fe9df4bb418… (all of the seat's roots in one cut). By AI agents, Wed Nov 11 2026. No macro, syntax, notation, axiom, sorry.
-/
import Derived.Test.YtmbmognhbljliaaChecked
import GoSem.Claim
import GoSem.ClaimJoined
import GoSem.ClaimMapViews
import Derived.JoinedTies
import Derived.KernelRfl
namespace Go.Proofs.Ytmbmognhbljliaa
/- THE CELL 'sum', in the pinned program and in every row, IS THE sha256 OF THE DUMP (.gsa) THAT YtmbmognhbljliaaProg.lean LOADS. Nothing in Lean hashes anything: it is a label: what it is worth is what the hold of that sum in a sandbox is worth. -/
noncomputable def Try.pinned : Pinned := { name := "ytmbmognhbljliaa", sum := "a07a5fe9df4bb418e08cb8f1585f7674b9f0d9f52ae70d3f346a0186fee14d2a", checked := Try.checked }
namespace Rows
def none {H : Type} : Left H := { results := [], args := [] }

/-- 'gaugehouselaw.BitsTells': WHATEVER THE INPUT: true; the input reads as it did. -/
def bitsTellsSpec : ChangeSpec := { name := "bitsTells", fn := fun _ => fun
  | [d1, d2, d3] => { results := [.lit (.bool true)], args := [d1, d2, d3] }
  | _ => none }
def bitsTellsRow : OpenClaim := { program := "ytmbmognhbljliaa", sum := "a07a5fe9df4bb418e08cb8f1585f7674b9f0d9f52ae70d3f346a0186fee14d2a", func := "gaugehouse/gaugehouselaw.BitsTells", spec := "bitsTells", recurses := true, apart := false }
def BitsTellsSaid : Prop := bitsTellsRow.holds Try.pinned (OpenSpec.ofChange bitsTellsSpec)

/-- ITS FALSE NEIGHBOUR: 'it returns false'. Refute it at one input. -/
def bitsTellsWrong : ChangeSpec := { name := "bitsTells", fn := fun _ => fun
  | [d1, d2, d3] => { results := [.lit (.bool false)], args := [d1, d2, d3] }
  | _ => none }
def BitsTellsWrongFalsely : Prop := bitsTellsRow.holds Try.pinned (OpenSpec.ofChange bitsTellsWrong)

/-- 'gaugehouselaw.HashTells': WHATEVER THE INPUT: true; the input reads as it did. -/
def hashTellsSpec : ChangeSpec := { name := "hashTells", fn := fun _ => fun
  | [d1, d2] => { results := [.lit (.bool true)], args := [d1, d2] }
  | _ => none }
def hashTellsRow : OpenClaim := { program := "ytmbmognhbljliaa", sum := "a07a5fe9df4bb418e08cb8f1585f7674b9f0d9f52ae70d3f346a0186fee14d2a", func := "gaugehouse/gaugehouselaw.HashTells", spec := "hashTells", apart := false }
def HashTellsSaid : Prop := hashTellsRow.holds Try.pinned (OpenSpec.ofChange hashTellsSpec)

/-- ITS FALSE NEIGHBOUR: 'it returns false'. Refute it at one input. -/
def hashTellsWrong : ChangeSpec := { name := "hashTells", fn := fun _ => fun
  | [d1, d2] => { results := [.lit (.bool false)], args := [d1, d2] }
  | _ => none }
def HashTellsWrongFalsely : Prop := hashTellsRow.holds Try.pinned (OpenSpec.ofChange hashTellsWrong)

/-- 'gaugehouselaw.RollTells': WHATEVER THE INPUT: true; the input reads as it did. -/
def rollTellsSpec : ChangeSpec := { name := "rollTells", fn := fun _ => fun
  | [d1, d2] => { results := [.lit (.bool true)], args := [d1, d2] }
  | _ => none }
def rollTellsRow : OpenClaim := { program := "ytmbmognhbljliaa", sum := "a07a5fe9df4bb418e08cb8f1585f7674b9f0d9f52ae70d3f346a0186fee14d2a", func := "gaugehouse/gaugehouselaw.RollTells", spec := "rollTells", apart := false }
def RollTellsSaid : Prop := rollTellsRow.holds Try.pinned (OpenSpec.ofChange rollTellsSpec)

/-- ITS FALSE NEIGHBOUR: 'it returns false'. Refute it at one input. -/
def rollTellsWrong : ChangeSpec := { name := "rollTells", fn := fun _ => fun
  | [d1, d2] => { results := [.lit (.bool false)], args := [d1, d2] }
  | _ => none }
def RollTellsWrongFalsely : Prop := rollTellsRow.holds Try.pinned (OpenSpec.ofChange rollTellsWrong)

/-- 'gaugehouselaw.ChunkMerges': WHATEVER THE INPUT: true; the input reads as it did. -/
def chunkMergesSpec : ChangeSpec := { name := "chunkMerges", fn := fun _ => fun
  | [d1, d2, d3, d4] => { results := [.lit (.bool true)], args := [d1, d2, d3, d4] }
  | _ => none }
def chunkMergesRow : OpenClaim := { program := "ytmbmognhbljliaa", sum := "a07a5fe9df4bb418e08cb8f1585f7674b9f0d9f52ae70d3f346a0186fee14d2a", func := "gaugehouse/gaugehouselaw.ChunkMerges", spec := "chunkMerges", unfollowed := true, recurses := true, apart := false }
def ChunkMergesSaid : Prop := chunkMergesRow.holds Try.pinned (OpenSpec.ofChange chunkMergesSpec)

/-- ITS FALSE NEIGHBOUR: 'it returns false'. Refute it at one input. -/
def chunkMergesWrong : ChangeSpec := { name := "chunkMerges", fn := fun _ => fun
  | [d1, d2, d3, d4] => { results := [.lit (.bool false)], args := [d1, d2, d3, d4] }
  | _ => none }
def ChunkMergesWrongFalsely : Prop := chunkMergesRow.holds Try.pinned (OpenSpec.ofChange chunkMergesWrong)

/-- 'gaugehouselaw.BitsPush': WHATEVER THE INPUT: true; the input reads as it did. -/
def bitsPushSpec : ChangeSpec := { name := "bitsPush", fn := fun _ => fun
  | [d1, d2, d3, d4] => { results := [.lit (.bool true)], args := [d1, d2, d3, d4] }
  | _ => none }
def bitsPushRow : OpenClaim := { program := "ytmbmognhbljliaa", sum := "a07a5fe9df4bb418e08cb8f1585f7674b9f0d9f52ae70d3f346a0186fee14d2a", func := "gaugehouse/gaugehouselaw.BitsPush", spec := "bitsPush", apart := false }
def BitsPushSaid : Prop := bitsPushRow.holds Try.pinned (OpenSpec.ofChange bitsPushSpec)

/-- ITS FALSE NEIGHBOUR: 'it returns false'. Refute it at one input. -/
def bitsPushWrong : ChangeSpec := { name := "bitsPush", fn := fun _ => fun
  | [d1, d2, d3, d4] => { results := [.lit (.bool false)], args := [d1, d2, d3, d4] }
  | _ => none }
def BitsPushWrongFalsely : Prop := bitsPushRow.holds Try.pinned (OpenSpec.ofChange bitsPushWrong)

/-- 'gaugehouselaw.SketchMerges': WHATEVER THE INPUT: true; the input reads as it did. -/
def sketchMergesSpec : ChangeSpec := { name := "sketchMerges", fn := fun _ => fun
  | [d1, d2] => { results := [.lit (.bool true)], args := [d1, d2] }
  | _ => none }
def sketchMergesRow : OpenClaim := { program := "ytmbmognhbljliaa", sum := "a07a5fe9df4bb418e08cb8f1585f7674b9f0d9f52ae70d3f346a0186fee14d2a", func := "gaugehouse/gaugehouselaw.SketchMerges", spec := "sketchMerges", unfollowed := true, recurses := true, apart := false }
def SketchMergesSaid : Prop := sketchMergesRow.holds Try.pinned (OpenSpec.ofChange sketchMergesSpec)

/-- ITS FALSE NEIGHBOUR: 'it returns false'. Refute it at one input. -/
def sketchMergesWrong : ChangeSpec := { name := "sketchMerges", fn := fun _ => fun
  | [d1, d2] => { results := [.lit (.bool false)], args := [d1, d2] }
  | _ => none }
def SketchMergesWrongFalsely : Prop := sketchMergesRow.holds Try.pinned (OpenSpec.ofChange sketchMergesWrong)

/-- 'gaugehouselaw.RollWider': WHATEVER THE INPUT: true; the input reads as it did. -/
def rollWiderSpec : ChangeSpec := { name := "rollWider", fn := fun _ => fun
  | [d1, d2, d3] => { results := [.lit (.bool true)], args := [d1, d2, d3] }
  | _ => none }
def rollWiderRow : OpenClaim := { program := "ytmbmognhbljliaa", sum := "a07a5fe9df4bb418e08cb8f1585f7674b9f0d9f52ae70d3f346a0186fee14d2a", func := "gaugehouse/gaugehouselaw.RollWider", spec := "rollWider", apart := false }
def RollWiderSaid : Prop := rollWiderRow.holds Try.pinned (OpenSpec.ofChange rollWiderSpec)

/-- ITS FALSE NEIGHBOUR: 'it returns false'. Refute it at one input. -/
def rollWiderWrong : ChangeSpec := { name := "rollWider", fn := fun _ => fun
  | [d1, d2, d3] => { results := [.lit (.bool false)], args := [d1, d2, d3] }
  | _ => none }
def RollWiderWrongFalsely : Prop := rollWiderRow.holds Try.pinned (OpenSpec.ofChange rollWiderWrong)

/-- 'gaugehouselaw.RateTells': WHATEVER THE INPUT: true; the input reads as it did. -/
def rateTellsSpec : ChangeSpec := { name := "rateTells", fn := fun _ => fun
  | [d1, d2, d3, d4] => { results := [.lit (.bool true)], args := [d1, d2, d3, d4] }
  | _ => none }
def rateTellsRow : OpenClaim := { program := "ytmbmognhbljliaa", sum := "a07a5fe9df4bb418e08cb8f1585f7674b9f0d9f52ae70d3f346a0186fee14d2a", func := "gaugehouse/gaugehouselaw.RateTells", spec := "rateTells", unfollowed := true, recurses := true, apart := false }
def RateTellsSaid : Prop := rateTellsRow.holds Try.pinned (OpenSpec.ofChange rateTellsSpec)

/-- ITS FALSE NEIGHBOUR: 'it returns false'. Refute it at one input. -/
def rateTellsWrong : ChangeSpec := { name := "rateTells", fn := fun _ => fun
  | [d1, d2, d3, d4] => { results := [.lit (.bool false)], args := [d1, d2, d3, d4] }
  | _ => none }
def RateTellsWrongFalsely : Prop := rateTellsRow.holds Try.pinned (OpenSpec.ofChange rateTellsWrong)

/-- 'gaugehouselaw.SketchTells': WHATEVER THE INPUT: true; the input reads as it did. -/
def sketchTellsSpec : ChangeSpec := { name := "sketchTells", fn := fun _ => fun
  | [d1, d2, d3, d4, d5] => { results := [.lit (.bool true)], args := [d1, d2, d3, d4, d5] }
  | _ => none }
def sketchTellsRow : OpenClaim := { program := "ytmbmognhbljliaa", sum := "a07a5fe9df4bb418e08cb8f1585f7674b9f0d9f52ae70d3f346a0186fee14d2a", func := "gaugehouse/gaugehouselaw.SketchTells", spec := "sketchTells", unfollowed := true, recurses := true, apart := false }
def SketchTellsSaid : Prop := sketchTellsRow.holds Try.pinned (OpenSpec.ofChange sketchTellsSpec)

/-- ITS FALSE NEIGHBOUR: 'it returns false'. Refute it at one input. -/
def sketchTellsWrong : ChangeSpec := { name := "sketchTells", fn := fun _ => fun
  | [d1, d2, d3, d4, d5] => { results := [.lit (.bool false)], args := [d1, d2, d3, d4, d5] }
  | _ => none }
def SketchTellsWrongFalsely : Prop := sketchTellsRow.holds Try.pinned (OpenSpec.ofChange sketchTellsWrong)

/- THE SECOND FORM. 'bulk': how many values and letters a reading holds, each counted each time it is reached (what is shared counts as often as it is met; a slice's spare places count too). A statement '..UptoSaid' is the law's where the arguments, and the package variables that the reading takes, are together of bulk at most 1048576: NARROWER than '..Said'. Prove '..Said' where nothing that the law and all that it calls make is longer than what came in: it says more and counts as full. Else prove '..UptoSaid'. A law counts once. -/
mutual
def uptoBulk {H : Type} : DataW H → Nat
  | .lit (.string bytes) => bytes.length + 1
  | .lit _ => 1
  | .nil => 1
  | .ptr d => uptoBulk d + 1
  | .slice elems spare => uptoBulkAll elems + uptoBulkAll spare + 1
  | .agg parts => uptoBulkAll parts + 1
  | .iface _ d => uptoBulk d + 1
  | .map entries => uptoBulkEntries entries + 1
  | .held _ => 1
def uptoBulkAll {H : Type} : List (DataW H) → Nat
  | [] => 0
  | d :: r => uptoBulk d + uptoBulkAll r
def uptoBulkEntries {H : Type} : List (Lit × DataW H) → Nat
  | [] => 0
  | x :: r => uptoBulkEntry x + uptoBulkEntries r
def uptoBulkEntry {H : Type} : Lit × DataW H → Nat
  | (.string bytes, d) => bytes.length + uptoBulk d + 1
  | (_, d) => uptoBulk d + 1
 end
def uptoSmall : (H : Type) → List (DataW H) → Bool := fun _ ds => decide (uptoBulkAll ds ≤ 1048576)
def OpenSpec.upto (s : _root_.Go.ChangeSpec) : _root_.Go.OpenSpec := { _root_.Go.OpenSpec.ofChange s with cond := some uptoSmall }

/-- 'gaugehouselaw.BitsTells', WHERE WHAT IT READS IS OF BULK AT MOST 1048576: true; the input reads as it did. -/
def bitsTellsUptoRow : OpenClaim := { program := "ytmbmognhbljliaa", sum := "a07a5fe9df4bb418e08cb8f1585f7674b9f0d9f52ae70d3f346a0186fee14d2a", func := "gaugehouse/gaugehouselaw.BitsTells", spec := "bitsTells", recurses := true, apart := false, narrowed := true }
def BitsTellsUptoSaid : Prop := bitsTellsUptoRow.holds Try.pinned (OpenSpec.upto bitsTellsSpec)

/-- 'gaugehouselaw.HashTells', WHERE WHAT IT READS IS OF BULK AT MOST 1048576: true; the input reads as it did. -/
def hashTellsUptoRow : OpenClaim := { program := "ytmbmognhbljliaa", sum := "a07a5fe9df4bb418e08cb8f1585f7674b9f0d9f52ae70d3f346a0186fee14d2a", func := "gaugehouse/gaugehouselaw.HashTells", spec := "hashTells", apart := false, narrowed := true }
def HashTellsUptoSaid : Prop := hashTellsUptoRow.holds Try.pinned (OpenSpec.upto hashTellsSpec)

/-- 'gaugehouselaw.RollTells', WHERE WHAT IT READS IS OF BULK AT MOST 1048576: true; the input reads as it did. -/
def rollTellsUptoRow : OpenClaim := { program := "ytmbmognhbljliaa", sum := "a07a5fe9df4bb418e08cb8f1585f7674b9f0d9f52ae70d3f346a0186fee14d2a", func := "gaugehouse/gaugehouselaw.RollTells", spec := "rollTells", apart := false, narrowed := true }
def RollTellsUptoSaid : Prop := rollTellsUptoRow.holds Try.pinned (OpenSpec.upto rollTellsSpec)

/-- 'gaugehouselaw.ChunkMerges', WHERE WHAT IT READS IS OF BULK AT MOST 1048576: true; the input reads as it did. -/
def chunkMergesUptoRow : OpenClaim := { program := "ytmbmognhbljliaa", sum := "a07a5fe9df4bb418e08cb8f1585f7674b9f0d9f52ae70d3f346a0186fee14d2a", func := "gaugehouse/gaugehouselaw.ChunkMerges", spec := "chunkMerges", unfollowed := true, recurses := true, apart := false, narrowed := true }
def ChunkMergesUptoSaid : Prop := chunkMergesUptoRow.holds Try.pinned (OpenSpec.upto chunkMergesSpec)

/-- 'gaugehouselaw.BitsPush', WHERE WHAT IT READS IS OF BULK AT MOST 1048576: true; the input reads as it did. -/
def bitsPushUptoRow : OpenClaim := { program := "ytmbmognhbljliaa", sum := "a07a5fe9df4bb418e08cb8f1585f7674b9f0d9f52ae70d3f346a0186fee14d2a", func := "gaugehouse/gaugehouselaw.BitsPush", spec := "bitsPush", apart := false, narrowed := true }
def BitsPushUptoSaid : Prop := bitsPushUptoRow.holds Try.pinned (OpenSpec.upto bitsPushSpec)

/-- 'gaugehouselaw.SketchMerges', WHERE WHAT IT READS IS OF BULK AT MOST 1048576: true; the input reads as it did. -/
def sketchMergesUptoRow : OpenClaim := { program := "ytmbmognhbljliaa", sum := "a07a5fe9df4bb418e08cb8f1585f7674b9f0d9f52ae70d3f346a0186fee14d2a", func := "gaugehouse/gaugehouselaw.SketchMerges", spec := "sketchMerges", unfollowed := true, recurses := true, apart := false, narrowed := true }
def SketchMergesUptoSaid : Prop := sketchMergesUptoRow.holds Try.pinned (OpenSpec.upto sketchMergesSpec)

/-- 'gaugehouselaw.RollWider', WHERE WHAT IT READS IS OF BULK AT MOST 1048576: true; the input reads as it did. -/
def rollWiderUptoRow : OpenClaim := { program := "ytmbmognhbljliaa", sum := "a07a5fe9df4bb418e08cb8f1585f7674b9f0d9f52ae70d3f346a0186fee14d2a", func := "gaugehouse/gaugehouselaw.RollWider", spec := "rollWider", apart := false, narrowed := true }
def RollWiderUptoSaid : Prop := rollWiderUptoRow.holds Try.pinned (OpenSpec.upto rollWiderSpec)

/-- 'gaugehouselaw.RateTells', WHERE WHAT IT READS IS OF BULK AT MOST 1048576: true; the input reads as it did. -/
def rateTellsUptoRow : OpenClaim := { program := "ytmbmognhbljliaa", sum := "a07a5fe9df4bb418e08cb8f1585f7674b9f0d9f52ae70d3f346a0186fee14d2a", func := "gaugehouse/gaugehouselaw.RateTells", spec := "rateTells", unfollowed := true, recurses := true, apart := false, narrowed := true }
def RateTellsUptoSaid : Prop := rateTellsUptoRow.holds Try.pinned (OpenSpec.upto rateTellsSpec)

/-- 'gaugehouselaw.SketchTells', WHERE WHAT IT READS IS OF BULK AT MOST 1048576: true; the input reads as it did. -/
def sketchTellsUptoRow : OpenClaim := { program := "ytmbmognhbljliaa", sum := "a07a5fe9df4bb418e08cb8f1585f7674b9f0d9f52ae70d3f346a0186fee14d2a", func := "gaugehouse/gaugehouselaw.SketchTells", spec := "sketchTells", unfollowed := true, recurses := true, apart := false, narrowed := true }
def SketchTellsUptoSaid : Prop := sketchTellsUptoRow.holds Try.pinned (OpenSpec.upto sketchTellsSpec)

end Rows
end Go.Proofs.Ytmbmognhbljliaa
