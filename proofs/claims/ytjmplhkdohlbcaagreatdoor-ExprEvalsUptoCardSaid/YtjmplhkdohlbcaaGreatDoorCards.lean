/-
  DERIVED. GIVEN WITH THE SEED: THE CARDS: each row of YtjmplhkdohlbcaaGreatDoorRows.lean that lists a variable, with what it lists TIED to the program's text (the seventh form; the later family's looks); each row that meets fmt, with fmt's text TOLD by the authors' own Lean function (tested against real Go, not proved from fmt's source: count such statements apart). THE CARD IS WHAT COUNTS. Prove the row's statement (the work); the ties are given (YtjmplhkdohlbcaaGreatDoorTie.lean); close each card by the builder's one call (the guide's Derived/Test/ToyasCard.lean, 'card_holds'). Laid BY PROGRAM, IN A SANDBOX (cutbox-door.mjs). By AI agents, Wed Nov 11 2026. No macro, syntax, notation, axiom, sorry.
-/
import Derived.Test.YtjmplhkdohlbcaaGreatDoorRows
import GoSem.ClaimSeven
namespace Go.Proofs.YtjmplhkdohlbcaaGreatDoor
namespace Rows

/-- THE TIED CARD OF 'gaugehouselaw.LabelTells'. -/
def labelTellsCard : Claim7 := { stood := { row := labelTellsRow, standIns := [], harness := (true, "6dfb831cf10b665dbe2a98b2ed20ea9e2ef5d0fc43148d3a221d4733b8296d66"), looks := true }, kinds := [], alts := [], laidByText := true, laidKinds := [.data], laidTests := true, laidLooks := .later }
def LabelTellsCardSaid : Prop := Claim7.holds Tryz.pinned (.plain (OpenSpec.ofChange labelTellsSpec)) labelTellsCard

/-- THE TIED CARD OF 'gaugehouselaw.ExprTells'. -/
def exprTellsCard : Claim7 := { stood := { row := exprTellsRow, standIns := [], harness := (true, "6dfb831cf10b665dbe2a98b2ed20ea9e2ef5d0fc43148d3a221d4733b8296d66"), looks := true }, kinds := [], alts := [], laidByText := true, laidKinds := [.data, .data, .data, .data, .data], laidTests := true, laidLooks := .later }
def ExprTellsCardSaid : Prop := Claim7.holds Tryz.pinned (.plain (OpenSpec.ofChange exprTellsSpec)) exprTellsCard

/-- THE TIED CARD OF 'gaugehouselaw.LabelFits'. -/
def labelFitsCard : Claim7 := { stood := { row := labelFitsRow, standIns := [], harness := (true, "6dfb831cf10b665dbe2a98b2ed20ea9e2ef5d0fc43148d3a221d4733b8296d66"), looks := true }, kinds := [], alts := [], laidByText := true, laidKinds := [.data], laidTests := true, laidLooks := .later }
def LabelFitsCardSaid : Prop := Claim7.holds Tryz.pinned (.plain (OpenSpec.ofChange labelFitsSpec)) labelFitsCard

/-- THE TIED CARD OF 'gaugehouselaw.ExprEvals'. -/
def exprEvalsCard : Claim7 := { stood := { row := exprEvalsRow, standIns := [], harness := (true, "6dfb831cf10b665dbe2a98b2ed20ea9e2ef5d0fc43148d3a221d4733b8296d66"), looks := true }, kinds := [], alts := [], laidByText := true, laidKinds := [.data], laidTests := true, laidLooks := .later }
def ExprEvalsCardSaid : Prop := Claim7.holds Tryz.pinned (.plain (OpenSpec.ofChange exprEvalsSpec)) exprEvalsCard

/-- THE TIED CARD OF 'gaugehouselaw.ExprReads'. -/
def exprReadsCard : Claim7 := { stood := { row := exprReadsRow, standIns := [], harness := (true, "6dfb831cf10b665dbe2a98b2ed20ea9e2ef5d0fc43148d3a221d4733b8296d66"), looks := true }, kinds := [], alts := [], laidByText := true, laidKinds := [.data, .data, .data, .data, .sentinel, .sentinel, .data, .data, .pinned], laidTests := true, laidLooks := .later }
def ExprReadsCardSaid : Prop := Claim7.holds Tryz.pinned (.plain (OpenSpec.ofChange exprReadsSpec)) exprReadsCard

/-- THE SECOND FORM's CARD OF 'gaugehouselaw.LabelTells'. -/
def labelTellsUptoCard : Claim7 := { stood := { row := labelTellsUptoRow, standIns := [], harness := (true, "6dfb831cf10b665dbe2a98b2ed20ea9e2ef5d0fc43148d3a221d4733b8296d66"), looks := true }, kinds := [], alts := [], laidByText := true, laidKinds := [.data], laidTests := true, laidLooks := .later }
def LabelTellsUptoCardSaid : Prop := Claim7.holds Tryz.pinned (.plain (OpenSpec.upto labelTellsSpec)) labelTellsUptoCard

/-- THE SECOND FORM's CARD OF 'gaugehouselaw.ExprTells'. -/
def exprTellsUptoCard : Claim7 := { stood := { row := exprTellsUptoRow, standIns := [], harness := (true, "6dfb831cf10b665dbe2a98b2ed20ea9e2ef5d0fc43148d3a221d4733b8296d66"), looks := true }, kinds := [], alts := [], laidByText := true, laidKinds := [.data, .data, .data, .data, .data], laidTests := true, laidLooks := .later }
def ExprTellsUptoCardSaid : Prop := Claim7.holds Tryz.pinned (.plain (OpenSpec.upto exprTellsSpec)) exprTellsUptoCard

/-- THE SECOND FORM's CARD OF 'gaugehouselaw.LabelFits'. -/
def labelFitsUptoCard : Claim7 := { stood := { row := labelFitsUptoRow, standIns := [], harness := (true, "6dfb831cf10b665dbe2a98b2ed20ea9e2ef5d0fc43148d3a221d4733b8296d66"), looks := true }, kinds := [], alts := [], laidByText := true, laidKinds := [.data], laidTests := true, laidLooks := .later }
def LabelFitsUptoCardSaid : Prop := Claim7.holds Tryz.pinned (.plain (OpenSpec.upto labelFitsSpec)) labelFitsUptoCard

/-- THE SECOND FORM's CARD OF 'gaugehouselaw.ExprEvals'. -/
def exprEvalsUptoCard : Claim7 := { stood := { row := exprEvalsUptoRow, standIns := [], harness := (true, "6dfb831cf10b665dbe2a98b2ed20ea9e2ef5d0fc43148d3a221d4733b8296d66"), looks := true }, kinds := [], alts := [], laidByText := true, laidKinds := [.data], laidTests := true, laidLooks := .later }
def ExprEvalsUptoCardSaid : Prop := Claim7.holds Tryz.pinned (.plain (OpenSpec.upto exprEvalsSpec)) exprEvalsUptoCard

/-- THE SECOND FORM's CARD OF 'gaugehouselaw.ExprReads'. -/
def exprReadsUptoCard : Claim7 := { stood := { row := exprReadsUptoRow, standIns := [], harness := (true, "6dfb831cf10b665dbe2a98b2ed20ea9e2ef5d0fc43148d3a221d4733b8296d66"), looks := true }, kinds := [], alts := [], laidByText := true, laidKinds := [.data, .data, .data, .data, .sentinel, .sentinel, .data, .data, .pinned], laidTests := true, laidLooks := .later }
def ExprReadsUptoCardSaid : Prop := Claim7.holds Tryz.pinned (.plain (OpenSpec.upto exprReadsSpec)) exprReadsUptoCard
end Rows
end Go.Proofs.YtjmplhkdohlbcaaGreatDoor
