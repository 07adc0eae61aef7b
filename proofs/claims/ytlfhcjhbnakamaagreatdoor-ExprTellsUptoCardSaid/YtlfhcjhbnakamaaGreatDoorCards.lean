/-
  DERIVED. GIVEN WITH THE SEED: THE CARDS: each row of YtlfhcjhbnakamaaGreatDoorRows.lean that lists a variable, with what it lists TIED to the program's text (the seventh form; the later family's looks); each row that meets fmt, with fmt's text TOLD by the authors' own Lean function (tested against real Go, not proved from fmt's source: count such statements apart). THE CARD IS WHAT COUNTS. Prove the row's statement (the work); the ties are given (YtlfhcjhbnakamaaGreatDoorTie.lean); close each card by the builder's one call (the guide's Derived/Test/ToyasCard.lean, 'card_holds'). Laid BY PROGRAM, IN A SANDBOX (cutbox-door.mjs). By AI agents, Wed Nov 11 2026. No macro, syntax, notation, axiom, sorry.
-/
import Derived.Test.YtlfhcjhbnakamaaGreatDoorRows
import GoSem.ClaimSeven
namespace Go.Proofs.YtlfhcjhbnakamaaGreatDoor
namespace Rows

/-- THE TIED CARD OF 'gaugehouselaw.LabelTells'. -/
def labelTellsCard : Claim7 := { stood := { row := labelTellsRow, standIns := [], harness := (true, "0f9fced2c4f48fe5cb64c351c85026a6ef5d1f8b32dce6d5195fd8f2e2a1bf85"), looks := true }, kinds := [], alts := [], laidByText := true, laidKinds := [.data], laidTests := true, laidLooks := .later }
def LabelTellsCardSaid : Prop := Claim7.holds Tryz.pinned (.plain (OpenSpec.ofChange labelTellsSpec)) labelTellsCard

/-- THE TIED CARD OF 'gaugehouselaw.ExprTells'. -/
def exprTellsCard : Claim7 := { stood := { row := exprTellsRow, standIns := [], harness := (true, "0f9fced2c4f48fe5cb64c351c85026a6ef5d1f8b32dce6d5195fd8f2e2a1bf85"), looks := true }, kinds := [], alts := [], laidByText := true, laidKinds := [.data, .data, .data, .data, .data], laidTests := true, laidLooks := .later }
def ExprTellsCardSaid : Prop := Claim7.holds Tryz.pinned (.plain (OpenSpec.ofChange exprTellsSpec)) exprTellsCard

/-- THE TIED CARD OF 'gaugehouselaw.StoreTells'. -/
def storeTellsCard : Claim7 := { stood := { row := storeTellsRow, standIns := [], harness := (true, "0f9fced2c4f48fe5cb64c351c85026a6ef5d1f8b32dce6d5195fd8f2e2a1bf85"), looks := true }, kinds := [], alts := [], laidByText := true, laidKinds := [.data], laidTests := true, laidLooks := .later }
def StoreTellsCardSaid : Prop := Claim7.holds Tryz.pinned (.plain (OpenSpec.ofChange storeTellsSpec)) storeTellsCard

/-- THE TIED CARD OF 'gaugehouselaw.LabelFits'. -/
def labelFitsCard : Claim7 := { stood := { row := labelFitsRow, standIns := [], harness := (true, "0f9fced2c4f48fe5cb64c351c85026a6ef5d1f8b32dce6d5195fd8f2e2a1bf85"), looks := true }, kinds := [], alts := [], laidByText := true, laidKinds := [.data], laidTests := true, laidLooks := .later }
def LabelFitsCardSaid : Prop := Claim7.holds Tryz.pinned (.plain (OpenSpec.ofChange labelFitsSpec)) labelFitsCard

/-- THE SECOND FORM's CARD OF 'gaugehouselaw.LabelTells'. -/
def labelTellsUptoCard : Claim7 := { stood := { row := labelTellsUptoRow, standIns := [], harness := (true, "0f9fced2c4f48fe5cb64c351c85026a6ef5d1f8b32dce6d5195fd8f2e2a1bf85"), looks := true }, kinds := [], alts := [], laidByText := true, laidKinds := [.data], laidTests := true, laidLooks := .later }
def LabelTellsUptoCardSaid : Prop := Claim7.holds Tryz.pinned (.plain (OpenSpec.upto labelTellsSpec)) labelTellsUptoCard

/-- THE SECOND FORM's CARD OF 'gaugehouselaw.ExprTells'. -/
def exprTellsUptoCard : Claim7 := { stood := { row := exprTellsUptoRow, standIns := [], harness := (true, "0f9fced2c4f48fe5cb64c351c85026a6ef5d1f8b32dce6d5195fd8f2e2a1bf85"), looks := true }, kinds := [], alts := [], laidByText := true, laidKinds := [.data, .data, .data, .data, .data], laidTests := true, laidLooks := .later }
def ExprTellsUptoCardSaid : Prop := Claim7.holds Tryz.pinned (.plain (OpenSpec.upto exprTellsSpec)) exprTellsUptoCard

/-- THE SECOND FORM's CARD OF 'gaugehouselaw.StoreTells'. -/
def storeTellsUptoCard : Claim7 := { stood := { row := storeTellsUptoRow, standIns := [], harness := (true, "0f9fced2c4f48fe5cb64c351c85026a6ef5d1f8b32dce6d5195fd8f2e2a1bf85"), looks := true }, kinds := [], alts := [], laidByText := true, laidKinds := [.data], laidTests := true, laidLooks := .later }
def StoreTellsUptoCardSaid : Prop := Claim7.holds Tryz.pinned (.plain (OpenSpec.upto storeTellsSpec)) storeTellsUptoCard

/-- THE SECOND FORM's CARD OF 'gaugehouselaw.LabelFits'. -/
def labelFitsUptoCard : Claim7 := { stood := { row := labelFitsUptoRow, standIns := [], harness := (true, "0f9fced2c4f48fe5cb64c351c85026a6ef5d1f8b32dce6d5195fd8f2e2a1bf85"), looks := true }, kinds := [], alts := [], laidByText := true, laidKinds := [.data], laidTests := true, laidLooks := .later }
def LabelFitsUptoCardSaid : Prop := Claim7.holds Tryz.pinned (.plain (OpenSpec.upto labelFitsSpec)) labelFitsUptoCard
end Rows
end Go.Proofs.YtlfhcjhbnakamaaGreatDoor
