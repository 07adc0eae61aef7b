/-
  DERIVED. GIVEN WITH THE SEED: THE CARDS: each row of YtbifhmbfmoeofaaDoorRows.lean that lists a variable, with what it lists TIED to the program's text (the seventh form; the later family's looks); each row that meets fmt, with fmt's text TOLD by the authors' own Lean function (tested against real Go, not proved from fmt's source: count such statements apart). THE CARD IS WHAT COUNTS. Prove the row's statement (the work); the ties are given (YtbifhmbfmoeofaaDoorTie.lean); close each card by the builder's one call (the guide's Derived/Test/ToyasCard.lean, 'card_holds'). Laid BY PROGRAM, IN A SANDBOX (cutbox-door.mjs). By AI agents, Wed Nov 11 2026. No macro, syntax, notation, axiom, sorry.
-/
import Derived.Test.YtbifhmbfmoeofaaDoorRows
import GoSem.ClaimSeven
namespace Go.Proofs.YtbifhmbfmoeofaaDoor
namespace Rows

/-- THE TIED CARD OF 'gaugehouselaw.ChunkSeals'. -/
def chunkSealsCard : Claim7 := { stood := { row := chunkSealsRow, standIns := [], harness := (true, "b81961580a7ac3de114211718508fc1a8dbec1ef74b0a69a3876cd3fc2231ccd"), looks := false }, kinds := [], alts := [], laidByText := true, laidKinds := [.data, .data], laidTests := true, laidLooks := .later }
def ChunkSealsCardSaid : Prop := Claim7.holds Tryd.pinned (.plain (OpenSpec.ofChange chunkSealsSpec)) chunkSealsCard

/-- THE TIED CARD OF 'gaugehouselaw.ChunkOpens'. -/
def chunkOpensCard : Claim7 := { stood := { row := chunkOpensRow, standIns := [], harness := (true, "b81961580a7ac3de114211718508fc1a8dbec1ef74b0a69a3876cd3fc2231ccd"), looks := false }, kinds := [], alts := [], laidByText := true, laidKinds := [.data, .data], laidTests := true, laidLooks := .later }
def ChunkOpensCardSaid : Prop := Claim7.holds Tryd.pinned (.plain (OpenSpec.ofChange chunkOpensSpec)) chunkOpensCard

/-- THE TIED CARD OF 'gaugehouselaw.DeltaPacks'. -/
def deltaPacksCard : Claim7 := { stood := { row := deltaPacksRow, standIns := [], harness := (true, "b81961580a7ac3de114211718508fc1a8dbec1ef74b0a69a3876cd3fc2231ccd"), looks := false }, kinds := [], alts := [], laidByText := true, laidKinds := [.data], laidTests := true, laidLooks := .later }
def DeltaPacksCardSaid : Prop := Claim7.holds Tryd.pinned (.plain (OpenSpec.ofChange deltaPacksSpec)) deltaPacksCard

/-- THE TIED CARD OF 'gaugehouselaw.XorPacks'. -/
def xorPacksCard : Claim7 := { stood := { row := xorPacksRow, standIns := [], harness := (true, "b81961580a7ac3de114211718508fc1a8dbec1ef74b0a69a3876cd3fc2231ccd"), looks := false }, kinds := [], alts := [], laidByText := true, laidKinds := [.data], laidTests := true, laidLooks := .later }
def XorPacksCardSaid : Prop := Claim7.holds Tryd.pinned (.plain (OpenSpec.ofChange xorPacksSpec)) xorPacksCard

/-- THE TIED CARD OF 'gaugehouselaw.DeltaOpens'. -/
def deltaOpensCard : Claim7 := { stood := { row := deltaOpensRow, standIns := [], harness := (true, "b81961580a7ac3de114211718508fc1a8dbec1ef74b0a69a3876cd3fc2231ccd"), looks := false }, kinds := [], alts := [], laidByText := true, laidKinds := [.data], laidTests := true, laidLooks := .later }
def DeltaOpensCardSaid : Prop := Claim7.holds Tryd.pinned (.plain (OpenSpec.ofChange deltaOpensSpec)) deltaOpensCard

/-- THE TIED CARD OF 'gaugehouselaw.XorOpens'. -/
def xorOpensCard : Claim7 := { stood := { row := xorOpensRow, standIns := [], harness := (true, "b81961580a7ac3de114211718508fc1a8dbec1ef74b0a69a3876cd3fc2231ccd"), looks := false }, kinds := [], alts := [], laidByText := true, laidKinds := [.data], laidTests := true, laidLooks := .later }
def XorOpensCardSaid : Prop := Claim7.holds Tryd.pinned (.plain (OpenSpec.ofChange xorOpensSpec)) xorOpensCard

/-- THE SECOND FORM's CARD OF 'gaugehouselaw.ChunkSeals'. -/
def chunkSealsUptoCard : Claim7 := { stood := { row := chunkSealsUptoRow, standIns := [], harness := (true, "b81961580a7ac3de114211718508fc1a8dbec1ef74b0a69a3876cd3fc2231ccd"), looks := false }, kinds := [], alts := [], laidByText := true, laidKinds := [.data, .data], laidTests := true, laidLooks := .later }
def ChunkSealsUptoCardSaid : Prop := Claim7.holds Tryd.pinned (.plain (OpenSpec.upto chunkSealsSpec)) chunkSealsUptoCard

/-- THE SECOND FORM's CARD OF 'gaugehouselaw.ChunkOpens'. -/
def chunkOpensUptoCard : Claim7 := { stood := { row := chunkOpensUptoRow, standIns := [], harness := (true, "b81961580a7ac3de114211718508fc1a8dbec1ef74b0a69a3876cd3fc2231ccd"), looks := false }, kinds := [], alts := [], laidByText := true, laidKinds := [.data, .data], laidTests := true, laidLooks := .later }
def ChunkOpensUptoCardSaid : Prop := Claim7.holds Tryd.pinned (.plain (OpenSpec.upto chunkOpensSpec)) chunkOpensUptoCard

/-- THE SECOND FORM's CARD OF 'gaugehouselaw.DeltaPacks'. -/
def deltaPacksUptoCard : Claim7 := { stood := { row := deltaPacksUptoRow, standIns := [], harness := (true, "b81961580a7ac3de114211718508fc1a8dbec1ef74b0a69a3876cd3fc2231ccd"), looks := false }, kinds := [], alts := [], laidByText := true, laidKinds := [.data], laidTests := true, laidLooks := .later }
def DeltaPacksUptoCardSaid : Prop := Claim7.holds Tryd.pinned (.plain (OpenSpec.upto deltaPacksSpec)) deltaPacksUptoCard

/-- THE SECOND FORM's CARD OF 'gaugehouselaw.XorPacks'. -/
def xorPacksUptoCard : Claim7 := { stood := { row := xorPacksUptoRow, standIns := [], harness := (true, "b81961580a7ac3de114211718508fc1a8dbec1ef74b0a69a3876cd3fc2231ccd"), looks := false }, kinds := [], alts := [], laidByText := true, laidKinds := [.data], laidTests := true, laidLooks := .later }
def XorPacksUptoCardSaid : Prop := Claim7.holds Tryd.pinned (.plain (OpenSpec.upto xorPacksSpec)) xorPacksUptoCard

/-- THE SECOND FORM's CARD OF 'gaugehouselaw.DeltaOpens'. -/
def deltaOpensUptoCard : Claim7 := { stood := { row := deltaOpensUptoRow, standIns := [], harness := (true, "b81961580a7ac3de114211718508fc1a8dbec1ef74b0a69a3876cd3fc2231ccd"), looks := false }, kinds := [], alts := [], laidByText := true, laidKinds := [.data], laidTests := true, laidLooks := .later }
def DeltaOpensUptoCardSaid : Prop := Claim7.holds Tryd.pinned (.plain (OpenSpec.upto deltaOpensSpec)) deltaOpensUptoCard

/-- THE SECOND FORM's CARD OF 'gaugehouselaw.XorOpens'. -/
def xorOpensUptoCard : Claim7 := { stood := { row := xorOpensUptoRow, standIns := [], harness := (true, "b81961580a7ac3de114211718508fc1a8dbec1ef74b0a69a3876cd3fc2231ccd"), looks := false }, kinds := [], alts := [], laidByText := true, laidKinds := [.data], laidTests := true, laidLooks := .later }
def XorOpensUptoCardSaid : Prop := Claim7.holds Tryd.pinned (.plain (OpenSpec.upto xorOpensSpec)) xorOpensUptoCard
end Rows
end Go.Proofs.YtbifhmbfmoeofaaDoor
