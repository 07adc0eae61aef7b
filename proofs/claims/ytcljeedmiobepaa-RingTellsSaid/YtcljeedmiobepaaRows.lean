/-
  No cell of these rows narrows 'for every input' (looked for: loops, veiled, ifaces, maps, wideKeys, modest, calm, conditions, laid).
  DERIVED. THE GIVEN ROWS OF THIS SEAT. 12 by the template 'for every input the law returns true; each argument reads behind the call as it read before'; 0 by the template 'total and deterministic' (their statements: YtcljeedmiobepaaTotals.lean).
  GIVEN WITH THE SEED: the statements are not yours to turn. If you find one false, say at which input.
  Laid BY PROGRAM, IN A SANDBOX (cutbox-rows.mjs): the forced cells as the released guide's own fill.sh prints them over the translation 75487658cb732d86… (all of the seat's roots in one cut). By AI agents, Wed Nov 11 2026. No macro, syntax, notation, axiom, sorry.
-/
import Derived.Test.YtcljeedmiobepaaChecked
import GoSem.Claim
import GoSem.ClaimJoined
import GoSem.ClaimMapViews
import Derived.JoinedTies
import Derived.KernelRfl
namespace Go.Proofs.Ytcljeedmiobepaa
/- THE CELL 'sum', in the pinned program and in every row, IS THE sha256 OF THE DUMP (.gsa) THAT YtcljeedmiobepaaProg.lean LOADS. Nothing in Lean hashes anything: it is a label: what it is worth is what the hold of that sum in a sandbox is worth. -/
noncomputable def Try.pinned : Pinned := { name := "ytcljeedmiobepaa", sum := "75487658cb732d86bb7368e1198b23ae81de2ee64c4ae468e089455e07a4f824", checked := Try.checked }
namespace Rows
def none {H : Type} : Left H := { results := [], args := [] }

/-- 'gaugehouselaw.ClaimTells': WHATEVER THE INPUT: true; the input reads as it did. -/
def claimTellsSpec : ChangeSpec := { name := "claimTells", fn := fun _ => fun
  | [d1, d2, d3, d4] => { results := [.lit (.bool true)], args := [d1, d2, d3, d4] }
  | _ => none }
def claimTellsRow : OpenClaim := { program := "ytcljeedmiobepaa", sum := "75487658cb732d86bb7368e1198b23ae81de2ee64c4ae468e089455e07a4f824", func := "gaugehouse/gaugehouselaw.ClaimTells", spec := "claimTells", apart := false }
def ClaimTellsSaid : Prop := claimTellsRow.holds Try.pinned (OpenSpec.ofChange claimTellsSpec)

/-- ITS FALSE NEIGHBOUR: 'it returns false'. Refute it at one input. -/
def claimTellsWrong : ChangeSpec := { name := "claimTells", fn := fun _ => fun
  | [d1, d2, d3, d4] => { results := [.lit (.bool false)], args := [d1, d2, d3, d4] }
  | _ => none }
def ClaimTellsWrongFalsely : Prop := claimTellsRow.holds Try.pinned (OpenSpec.ofChange claimTellsWrong)

/-- 'gaugehouselaw.GossipTells': WHATEVER THE INPUT: true; the input reads as it did. -/
def gossipTellsSpec : ChangeSpec := { name := "gossipTells", fn := fun _ => fun
  | [d1, d2, d3] => { results := [.lit (.bool true)], args := [d1, d2, d3] }
  | _ => none }
def gossipTellsRow : OpenClaim := { program := "ytcljeedmiobepaa", sum := "75487658cb732d86bb7368e1198b23ae81de2ee64c4ae468e089455e07a4f824", func := "gaugehouse/gaugehouselaw.GossipTells", spec := "gossipTells", apart := false }
def GossipTellsSaid : Prop := gossipTellsRow.holds Try.pinned (OpenSpec.ofChange gossipTellsSpec)

/-- ITS FALSE NEIGHBOUR: 'it returns false'. Refute it at one input. -/
def gossipTellsWrong : ChangeSpec := { name := "gossipTells", fn := fun _ => fun
  | [d1, d2, d3] => { results := [.lit (.bool false)], args := [d1, d2, d3] }
  | _ => none }
def GossipTellsWrongFalsely : Prop := gossipTellsRow.holds Try.pinned (OpenSpec.ofChange gossipTellsWrong)

/-- 'gaugehouselaw.GossipSpreads': WHATEVER THE INPUT: true; the input reads as it did. -/
def gossipSpreadsSpec : ChangeSpec := { name := "gossipSpreads", fn := fun _ => fun
  | [d1, d2] => { results := [.lit (.bool true)], args := [d1, d2] }
  | _ => none }
def gossipSpreadsRow : OpenClaim := { program := "ytcljeedmiobepaa", sum := "75487658cb732d86bb7368e1198b23ae81de2ee64c4ae468e089455e07a4f824", func := "gaugehouse/gaugehouselaw.GossipSpreads", spec := "gossipSpreads", unfollowed := true, recurses := true, apart := false }
def GossipSpreadsSaid : Prop := gossipSpreadsRow.holds Try.pinned (OpenSpec.ofChange gossipSpreadsSpec)

/-- ITS FALSE NEIGHBOUR: 'it returns false'. Refute it at one input. -/
def gossipSpreadsWrong : ChangeSpec := { name := "gossipSpreads", fn := fun _ => fun
  | [d1, d2] => { results := [.lit (.bool false)], args := [d1, d2] }
  | _ => none }
def GossipSpreadsWrongFalsely : Prop := gossipSpreadsRow.holds Try.pinned (OpenSpec.ofChange gossipSpreadsWrong)

/-- 'gaugehouselaw.HandPlays': WHATEVER THE INPUT: true; the input reads as it did. -/
def handPlaysSpec : ChangeSpec := { name := "handPlays", fn := fun _ => fun
  | [d1, d2] => { results := [.lit (.bool true)], args := [d1, d2] }
  | _ => none }
def handPlaysRow : OpenClaim := { program := "ytcljeedmiobepaa", sum := "75487658cb732d86bb7368e1198b23ae81de2ee64c4ae468e089455e07a4f824", func := "gaugehouse/gaugehouselaw.HandPlays", spec := "handPlays", inPlace := ["slices.overlaps[int64]"], apart := false }
def HandPlaysSaid : Prop := handPlaysRow.holds Try.pinned (OpenSpec.ofChange handPlaysSpec)

/-- ITS FALSE NEIGHBOUR: 'it returns false'. Refute it at one input. -/
def handPlaysWrong : ChangeSpec := { name := "handPlays", fn := fun _ => fun
  | [d1, d2] => { results := [.lit (.bool false)], args := [d1, d2] }
  | _ => none }
def HandPlaysWrongFalsely : Prop := handPlaysRow.holds Try.pinned (OpenSpec.ofChange handPlaysWrong)

/-- 'gaugehouselaw.HeavyTells': WHATEVER THE INPUT: true; the input reads as it did. -/
def heavyTellsSpec : ChangeSpec := { name := "heavyTells", fn := fun _ => fun
  | [d1, d2, d3] => { results := [.lit (.bool true)], args := [d1, d2, d3] }
  | _ => none }
def heavyTellsRow : OpenClaim := { program := "ytcljeedmiobepaa", sum := "75487658cb732d86bb7368e1198b23ae81de2ee64c4ae468e089455e07a4f824", func := "gaugehouse/gaugehouselaw.HeavyTells", spec := "heavyTells", inPlace := ["slices.overlaps[gaugehouse/api.Count]"], unfollowed := true, recurses := true, apart := false }
def HeavyTellsSaid : Prop := heavyTellsRow.holds Try.pinned (OpenSpec.ofChange heavyTellsSpec)

/-- ITS FALSE NEIGHBOUR: 'it returns false'. Refute it at one input. -/
def heavyTellsWrong : ChangeSpec := { name := "heavyTells", fn := fun _ => fun
  | [d1, d2, d3] => { results := [.lit (.bool false)], args := [d1, d2, d3] }
  | _ => none }
def HeavyTellsWrongFalsely : Prop := heavyTellsRow.holds Try.pinned (OpenSpec.ofChange heavyTellsWrong)

/-- 'gaugehouselaw.HeavyMerges': WHATEVER THE INPUT: true; the input reads as it did. -/
def heavyMergesSpec : ChangeSpec := { name := "heavyMerges", fn := fun _ => fun
  | [d1, d2] => { results := [.lit (.bool true)], args := [d1, d2] }
  | _ => none }
def heavyMergesRow : OpenClaim := { program := "ytcljeedmiobepaa", sum := "75487658cb732d86bb7368e1198b23ae81de2ee64c4ae468e089455e07a4f824", func := "gaugehouse/gaugehouselaw.HeavyMerges", spec := "heavyMerges", inPlace := ["slices.overlaps[gaugehouse/api.Count]"], unfollowed := true, recurses := true, apart := false }
def HeavyMergesSaid : Prop := heavyMergesRow.holds Try.pinned (OpenSpec.ofChange heavyMergesSpec)

/-- ITS FALSE NEIGHBOUR: 'it returns false'. Refute it at one input. -/
def heavyMergesWrong : ChangeSpec := { name := "heavyMerges", fn := fun _ => fun
  | [d1, d2] => { results := [.lit (.bool false)], args := [d1, d2] }
  | _ => none }
def HeavyMergesWrongFalsely : Prop := heavyMergesRow.holds Try.pinned (OpenSpec.ofChange heavyMergesWrong)

/-- 'gaugehouselaw.RingTells': WHATEVER THE INPUT: true; the input reads as it did. -/
def ringTellsSpec : ChangeSpec := { name := "ringTells", fn := fun _ => fun
  | [d1, d2, d3, d4, d5] => { results := [.lit (.bool true)], args := [d1, d2, d3, d4, d5] }
  | _ => none }
def ringTellsRow : OpenClaim := { program := "ytcljeedmiobepaa", sum := "75487658cb732d86bb7368e1198b23ae81de2ee64c4ae468e089455e07a4f824", func := "gaugehouse/gaugehouselaw.RingTells", spec := "ringTells", inPlace := ["slices.overlaps[gaugehouse/api.Node]"], unfollowed := true, recurses := true, apart := false }
def RingTellsSaid : Prop := ringTellsRow.holds Try.pinned (OpenSpec.ofChange ringTellsSpec)

/-- ITS FALSE NEIGHBOUR: 'it returns false'. Refute it at one input. -/
def ringTellsWrong : ChangeSpec := { name := "ringTells", fn := fun _ => fun
  | [d1, d2, d3, d4, d5] => { results := [.lit (.bool false)], args := [d1, d2, d3, d4, d5] }
  | _ => none }
def RingTellsWrongFalsely : Prop := ringTellsRow.holds Try.pinned (OpenSpec.ofChange ringTellsWrong)

/-- 'gaugehouselaw.LeastTells': WHATEVER THE INPUT: true; the input reads as it did. -/
def leastTellsSpec : ChangeSpec := { name := "leastTells", fn := fun _ => fun
  | [d1, d2, d3, d4] => { results := [.lit (.bool true)], args := [d1, d2, d3, d4] }
  | _ => none }
def leastTellsRow : OpenClaim := { program := "ytcljeedmiobepaa", sum := "75487658cb732d86bb7368e1198b23ae81de2ee64c4ae468e089455e07a4f824", func := "gaugehouse/gaugehouselaw.LeastTells", spec := "leastTells", recurses := true, named := ["math/bits.divideError", "math/bits.overflowError"], apart := false }
def LeastTellsSaid : Prop := leastTellsRow.holds Try.pinned (OpenSpec.ofChange leastTellsSpec)

/-- ITS FALSE NEIGHBOUR: 'it returns false'. Refute it at one input. -/
def leastTellsWrong : ChangeSpec := { name := "leastTells", fn := fun _ => fun
  | [d1, d2, d3, d4] => { results := [.lit (.bool false)], args := [d1, d2, d3, d4] }
  | _ => none }
def LeastTellsWrongFalsely : Prop := leastTellsRow.holds Try.pinned (OpenSpec.ofChange leastTellsWrong)

/-- 'gaugehouselaw.IndexSets': WHATEVER THE INPUT: true; the input reads as it did. -/
def indexSetsSpec : ChangeSpec := { name := "indexSets", fn := fun _ => fun
  | [d1, d2, d3] => { results := [.lit (.bool true)], args := [d1, d2, d3] }
  | _ => none }
def indexSetsRow : OpenClaim := { program := "ytcljeedmiobepaa", sum := "75487658cb732d86bb7368e1198b23ae81de2ee64c4ae468e089455e07a4f824", func := "gaugehouse/gaugehouselaw.IndexSets", spec := "indexSets", recurses := true, apart := false }
def IndexSetsSaid : Prop := indexSetsRow.holds Try.pinned (OpenSpec.ofChange indexSetsSpec)

/-- ITS FALSE NEIGHBOUR: 'it returns false'. Refute it at one input. -/
def indexSetsWrong : ChangeSpec := { name := "indexSets", fn := fun _ => fun
  | [d1, d2, d3] => { results := [.lit (.bool false)], args := [d1, d2, d3] }
  | _ => none }
def IndexSetsWrongFalsely : Prop := indexSetsRow.holds Try.pinned (OpenSpec.ofChange indexSetsWrong)

/-- 'gaugehouselaw.RankAsks': WHATEVER THE INPUT: true; the input reads as it did. -/
def rankAsksSpec : ChangeSpec := { name := "rankAsks", fn := fun _ => fun
  | [d1, d2, d3] => { results := [.lit (.bool true)], args := [d1, d2, d3] }
  | _ => none }
def rankAsksRow : OpenClaim := { program := "ytcljeedmiobepaa", sum := "75487658cb732d86bb7368e1198b23ae81de2ee64c4ae468e089455e07a4f824", func := "gaugehouse/gaugehouselaw.RankAsks", spec := "rankAsks", unfollowed := true, recurses := true, apart := false }
def RankAsksSaid : Prop := rankAsksRow.holds Try.pinned (OpenSpec.ofChange rankAsksSpec)

/-- ITS FALSE NEIGHBOUR: 'it returns false'. Refute it at one input. -/
def rankAsksWrong : ChangeSpec := { name := "rankAsks", fn := fun _ => fun
  | [d1, d2, d3] => { results := [.lit (.bool false)], args := [d1, d2, d3] }
  | _ => none }
def RankAsksWrongFalsely : Prop := rankAsksRow.holds Try.pinned (OpenSpec.ofChange rankAsksWrong)

/-- 'gaugehouselaw.RankAdds': WHATEVER THE INPUT: true; the input reads as it did. -/
def rankAddsSpec : ChangeSpec := { name := "rankAdds", fn := fun _ => fun
  | [d1, d2, d3] => { results := [.lit (.bool true)], args := [d1, d2, d3] }
  | _ => none }
def rankAddsRow : OpenClaim := { program := "ytcljeedmiobepaa", sum := "75487658cb732d86bb7368e1198b23ae81de2ee64c4ae468e089455e07a4f824", func := "gaugehouse/gaugehouselaw.RankAdds", spec := "rankAdds", inPlace := ["slices.overlaps[int64]"], recurses := true, apart := false }
def RankAddsSaid : Prop := rankAddsRow.holds Try.pinned (OpenSpec.ofChange rankAddsSpec)

/-- ITS FALSE NEIGHBOUR: 'it returns false'. Refute it at one input. -/
def rankAddsWrong : ChangeSpec := { name := "rankAdds", fn := fun _ => fun
  | [d1, d2, d3] => { results := [.lit (.bool false)], args := [d1, d2, d3] }
  | _ => none }
def RankAddsWrongFalsely : Prop := rankAddsRow.holds Try.pinned (OpenSpec.ofChange rankAddsWrong)

/-- 'gaugehouselaw.RankMerges': WHATEVER THE INPUT: true; the input reads as it did. -/
def rankMergesSpec : ChangeSpec := { name := "rankMerges", fn := fun _ => fun
  | [d1, d2] => { results := [.lit (.bool true)], args := [d1, d2] }
  | _ => none }
def rankMergesRow : OpenClaim := { program := "ytcljeedmiobepaa", sum := "75487658cb732d86bb7368e1198b23ae81de2ee64c4ae468e089455e07a4f824", func := "gaugehouse/gaugehouselaw.RankMerges", spec := "rankMerges", inPlace := ["slices.overlaps[int64]"], recurses := true, apart := false }
def RankMergesSaid : Prop := rankMergesRow.holds Try.pinned (OpenSpec.ofChange rankMergesSpec)

/-- ITS FALSE NEIGHBOUR: 'it returns false'. Refute it at one input. -/
def rankMergesWrong : ChangeSpec := { name := "rankMerges", fn := fun _ => fun
  | [d1, d2] => { results := [.lit (.bool false)], args := [d1, d2] }
  | _ => none }
def RankMergesWrongFalsely : Prop := rankMergesRow.holds Try.pinned (OpenSpec.ofChange rankMergesWrong)

/- THE SECOND FORM. 'bulk': how many values and letters a reading holds, each counted each time it is reached (what is shared counts as often as it is met; a slice's spare places count too). A statement '..UptoSaid' is the law's where the arguments, and the package variables that the reading takes, are together of bulk at most 1048576: NARROWER than '..Said'. Prove '..Said' where nothing that the law and all that it calls make is longer than what came in: it says more and counts as full. Else prove '..UptoSaid'. A law counts once. -/
mutual
def uptoBulk {H : Type} : DataW H → Nat
  | .lit (.string bytes) => bytes.length + 1
  | .lit _ => 1
  | .nil => 1
  | .ptr d => uptoBulk d + 1
  | .slice elems spare => uptoBulkAll elems + uptoBulkAll spare + 1
  | .agg parts => uptoBulkAll parts + 1
  | .iface _ d => uptoBulk d + 1
  | .map entries => uptoBulkEntries entries + 1
  | .held _ => 1
def uptoBulkAll {H : Type} : List (DataW H) → Nat
  | [] => 0
  | d :: r => uptoBulk d + uptoBulkAll r
def uptoBulkEntries {H : Type} : List (Lit × DataW H) → Nat
  | [] => 0
  | x :: r => uptoBulkEntry x + uptoBulkEntries r
def uptoBulkEntry {H : Type} : Lit × DataW H → Nat
  | (.string bytes, d) => bytes.length + uptoBulk d + 1
  | (_, d) => uptoBulk d + 1
 end
def uptoSmall : (H : Type) → List (DataW H) → Bool := fun _ ds => decide (uptoBulkAll ds ≤ 1048576)
def OpenSpec.upto (s : _root_.Go.ChangeSpec) : _root_.Go.OpenSpec := { _root_.Go.OpenSpec.ofChange s with cond := some uptoSmall }

/-- 'gaugehouselaw.ClaimTells', WHERE WHAT IT READS IS OF BULK AT MOST 1048576: true; the input reads as it did. -/
def claimTellsUptoRow : OpenClaim := { program := "ytcljeedmiobepaa", sum := "75487658cb732d86bb7368e1198b23ae81de2ee64c4ae468e089455e07a4f824", func := "gaugehouse/gaugehouselaw.ClaimTells", spec := "claimTells", apart := false, narrowed := true }
def ClaimTellsUptoSaid : Prop := claimTellsUptoRow.holds Try.pinned (OpenSpec.upto claimTellsSpec)

/-- 'gaugehouselaw.GossipTells', WHERE WHAT IT READS IS OF BULK AT MOST 1048576: true; the input reads as it did. -/
def gossipTellsUptoRow : OpenClaim := { program := "ytcljeedmiobepaa", sum := "75487658cb732d86bb7368e1198b23ae81de2ee64c4ae468e089455e07a4f824", func := "gaugehouse/gaugehouselaw.GossipTells", spec := "gossipTells", apart := false, narrowed := true }
def GossipTellsUptoSaid : Prop := gossipTellsUptoRow.holds Try.pinned (OpenSpec.upto gossipTellsSpec)

/-- 'gaugehouselaw.GossipSpreads', WHERE WHAT IT READS IS OF BULK AT MOST 1048576: true; the input reads as it did. -/
def gossipSpreadsUptoRow : OpenClaim := { program := "ytcljeedmiobepaa", sum := "75487658cb732d86bb7368e1198b23ae81de2ee64c4ae468e089455e07a4f824", func := "gaugehouse/gaugehouselaw.GossipSpreads", spec := "gossipSpreads", unfollowed := true, recurses := true, apart := false, narrowed := true }
def GossipSpreadsUptoSaid : Prop := gossipSpreadsUptoRow.holds Try.pinned (OpenSpec.upto gossipSpreadsSpec)

/-- 'gaugehouselaw.HandPlays', WHERE WHAT IT READS IS OF BULK AT MOST 1048576: true; the input reads as it did. -/
def handPlaysUptoRow : OpenClaim := { program := "ytcljeedmiobepaa", sum := "75487658cb732d86bb7368e1198b23ae81de2ee64c4ae468e089455e07a4f824", func := "gaugehouse/gaugehouselaw.HandPlays", spec := "handPlays", inPlace := ["slices.overlaps[int64]"], apart := false, narrowed := true }
def HandPlaysUptoSaid : Prop := handPlaysUptoRow.holds Try.pinned (OpenSpec.upto handPlaysSpec)

/-- 'gaugehouselaw.HeavyTells', WHERE WHAT IT READS IS OF BULK AT MOST 1048576: true; the input reads as it did. -/
def heavyTellsUptoRow : OpenClaim := { program := "ytcljeedmiobepaa", sum := "75487658cb732d86bb7368e1198b23ae81de2ee64c4ae468e089455e07a4f824", func := "gaugehouse/gaugehouselaw.HeavyTells", spec := "heavyTells", inPlace := ["slices.overlaps[gaugehouse/api.Count]"], unfollowed := true, recurses := true, apart := false, narrowed := true }
def HeavyTellsUptoSaid : Prop := heavyTellsUptoRow.holds Try.pinned (OpenSpec.upto heavyTellsSpec)

/-- 'gaugehouselaw.HeavyMerges', WHERE WHAT IT READS IS OF BULK AT MOST 1048576: true; the input reads as it did. -/
def heavyMergesUptoRow : OpenClaim := { program := "ytcljeedmiobepaa", sum := "75487658cb732d86bb7368e1198b23ae81de2ee64c4ae468e089455e07a4f824", func := "gaugehouse/gaugehouselaw.HeavyMerges", spec := "heavyMerges", inPlace := ["slices.overlaps[gaugehouse/api.Count]"], unfollowed := true, recurses := true, apart := false, narrowed := true }
def HeavyMergesUptoSaid : Prop := heavyMergesUptoRow.holds Try.pinned (OpenSpec.upto heavyMergesSpec)

/-- 'gaugehouselaw.RingTells', WHERE WHAT IT READS IS OF BULK AT MOST 1048576: true; the input reads as it did. -/
def ringTellsUptoRow : OpenClaim := { program := "ytcljeedmiobepaa", sum := "75487658cb732d86bb7368e1198b23ae81de2ee64c4ae468e089455e07a4f824", func := "gaugehouse/gaugehouselaw.RingTells", spec := "ringTells", inPlace := ["slices.overlaps[gaugehouse/api.Node]"], unfollowed := true, recurses := true, apart := false, narrowed := true }
def RingTellsUptoSaid : Prop := ringTellsUptoRow.holds Try.pinned (OpenSpec.upto ringTellsSpec)

/-- 'gaugehouselaw.LeastTells', WHERE WHAT IT READS IS OF BULK AT MOST 1048576: true; the input reads as it did. -/
def leastTellsUptoRow : OpenClaim := { program := "ytcljeedmiobepaa", sum := "75487658cb732d86bb7368e1198b23ae81de2ee64c4ae468e089455e07a4f824", func := "gaugehouse/gaugehouselaw.LeastTells", spec := "leastTells", recurses := true, named := ["math/bits.divideError", "math/bits.overflowError"], apart := false, narrowed := true }
def LeastTellsUptoSaid : Prop := leastTellsUptoRow.holds Try.pinned (OpenSpec.upto leastTellsSpec)

/-- 'gaugehouselaw.IndexSets', WHERE WHAT IT READS IS OF BULK AT MOST 1048576: true; the input reads as it did. -/
def indexSetsUptoRow : OpenClaim := { program := "ytcljeedmiobepaa", sum := "75487658cb732d86bb7368e1198b23ae81de2ee64c4ae468e089455e07a4f824", func := "gaugehouse/gaugehouselaw.IndexSets", spec := "indexSets", recurses := true, apart := false, narrowed := true }
def IndexSetsUptoSaid : Prop := indexSetsUptoRow.holds Try.pinned (OpenSpec.upto indexSetsSpec)

/-- 'gaugehouselaw.RankAsks', WHERE WHAT IT READS IS OF BULK AT MOST 1048576: true; the input reads as it did. -/
def rankAsksUptoRow : OpenClaim := { program := "ytcljeedmiobepaa", sum := "75487658cb732d86bb7368e1198b23ae81de2ee64c4ae468e089455e07a4f824", func := "gaugehouse/gaugehouselaw.RankAsks", spec := "rankAsks", unfollowed := true, recurses := true, apart := false, narrowed := true }
def RankAsksUptoSaid : Prop := rankAsksUptoRow.holds Try.pinned (OpenSpec.upto rankAsksSpec)

/-- 'gaugehouselaw.RankAdds', WHERE WHAT IT READS IS OF BULK AT MOST 1048576: true; the input reads as it did. -/
def rankAddsUptoRow : OpenClaim := { program := "ytcljeedmiobepaa", sum := "75487658cb732d86bb7368e1198b23ae81de2ee64c4ae468e089455e07a4f824", func := "gaugehouse/gaugehouselaw.RankAdds", spec := "rankAdds", inPlace := ["slices.overlaps[int64]"], recurses := true, apart := false, narrowed := true }
def RankAddsUptoSaid : Prop := rankAddsUptoRow.holds Try.pinned (OpenSpec.upto rankAddsSpec)

/-- 'gaugehouselaw.RankMerges', WHERE WHAT IT READS IS OF BULK AT MOST 1048576: true; the input reads as it did. -/
def rankMergesUptoRow : OpenClaim := { program := "ytcljeedmiobepaa", sum := "75487658cb732d86bb7368e1198b23ae81de2ee64c4ae468e089455e07a4f824", func := "gaugehouse/gaugehouselaw.RankMerges", spec := "rankMerges", inPlace := ["slices.overlaps[int64]"], recurses := true, apart := false, narrowed := true }
def RankMergesUptoSaid : Prop := rankMergesUptoRow.holds Try.pinned (OpenSpec.upto rankMergesSpec)

end Rows
end Go.Proofs.Ytcljeedmiobepaa
