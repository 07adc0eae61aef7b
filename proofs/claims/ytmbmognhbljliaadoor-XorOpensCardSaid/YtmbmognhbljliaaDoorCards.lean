/-
  DERIVED. GIVEN WITH THE SEED: THE CARDS: each row of YtmbmognhbljliaaDoorRows.lean that lists a variable, with what it lists TIED to the program's text (the seventh form; the later family's looks); each row that meets fmt, with fmt's text TOLD by the authors' own Lean function (tested against real Go, not proved from fmt's source: count such statements apart). THE CARD IS WHAT COUNTS. Prove the row's statement (the work); the ties are given (YtmbmognhbljliaaDoorTie.lean); close each card by the builder's one call (the guide's Derived/Test/ToyasCard.lean, 'card_holds'). Laid BY PROGRAM, IN A SANDBOX (cutbox-door.mjs). By AI agents, Wed Nov 11 2026. No macro, syntax, notation, axiom, sorry.
-/
import Derived.Test.YtmbmognhbljliaaDoorRows
import GoSem.ClaimSeven
namespace Go.Proofs.YtmbmognhbljliaaDoor
namespace Rows

/-- THE TIED CARD OF 'gaugehouselaw.DeltaPacks'. -/
def deltaPacksCard : Claim7 := { stood := { row := deltaPacksRow, standIns := [], harness := (true, "3c5abb2090407671dce5ba00981475f2241057edb3aefee82f9254eaf5e14f7e"), looks := false }, kinds := [], alts := [], laidByText := true, laidKinds := [.data], laidTests := true, laidLooks := .later }
def DeltaPacksCardSaid : Prop := Claim7.holds Tryd.pinned (.plain (OpenSpec.ofChange deltaPacksSpec)) deltaPacksCard

/-- THE TIED CARD OF 'gaugehouselaw.XorPacks'. -/
def xorPacksCard : Claim7 := { stood := { row := xorPacksRow, standIns := [], harness := (true, "3c5abb2090407671dce5ba00981475f2241057edb3aefee82f9254eaf5e14f7e"), looks := false }, kinds := [], alts := [], laidByText := true, laidKinds := [.data], laidTests := true, laidLooks := .later }
def XorPacksCardSaid : Prop := Claim7.holds Tryd.pinned (.plain (OpenSpec.ofChange xorPacksSpec)) xorPacksCard

/-- THE TIED CARD OF 'gaugehouselaw.DeltaOpens'. -/
def deltaOpensCard : Claim7 := { stood := { row := deltaOpensRow, standIns := [], harness := (true, "3c5abb2090407671dce5ba00981475f2241057edb3aefee82f9254eaf5e14f7e"), looks := false }, kinds := [], alts := [], laidByText := true, laidKinds := [.data], laidTests := true, laidLooks := .later }
def DeltaOpensCardSaid : Prop := Claim7.holds Tryd.pinned (.plain (OpenSpec.ofChange deltaOpensSpec)) deltaOpensCard

/-- THE TIED CARD OF 'gaugehouselaw.XorOpens'. -/
def xorOpensCard : Claim7 := { stood := { row := xorOpensRow, standIns := [], harness := (true, "3c5abb2090407671dce5ba00981475f2241057edb3aefee82f9254eaf5e14f7e"), looks := false }, kinds := [], alts := [], laidByText := true, laidKinds := [.data], laidTests := true, laidLooks := .later }
def XorOpensCardSaid : Prop := Claim7.holds Tryd.pinned (.plain (OpenSpec.ofChange xorOpensSpec)) xorOpensCard

/-- THE SECOND FORM's CARD OF 'gaugehouselaw.DeltaPacks'. -/
def deltaPacksUptoCard : Claim7 := { stood := { row := deltaPacksUptoRow, standIns := [], harness := (true, "3c5abb2090407671dce5ba00981475f2241057edb3aefee82f9254eaf5e14f7e"), looks := false }, kinds := [], alts := [], laidByText := true, laidKinds := [.data], laidTests := true, laidLooks := .later }
def DeltaPacksUptoCardSaid : Prop := Claim7.holds Tryd.pinned (.plain (OpenSpec.upto deltaPacksSpec)) deltaPacksUptoCard

/-- THE SECOND FORM's CARD OF 'gaugehouselaw.XorPacks'. -/
def xorPacksUptoCard : Claim7 := { stood := { row := xorPacksUptoRow, standIns := [], harness := (true, "3c5abb2090407671dce5ba00981475f2241057edb3aefee82f9254eaf5e14f7e"), looks := false }, kinds := [], alts := [], laidByText := true, laidKinds := [.data], laidTests := true, laidLooks := .later }
def XorPacksUptoCardSaid : Prop := Claim7.holds Tryd.pinned (.plain (OpenSpec.upto xorPacksSpec)) xorPacksUptoCard

/-- THE SECOND FORM's CARD OF 'gaugehouselaw.DeltaOpens'. -/
def deltaOpensUptoCard : Claim7 := { stood := { row := deltaOpensUptoRow, standIns := [], harness := (true, "3c5abb2090407671dce5ba00981475f2241057edb3aefee82f9254eaf5e14f7e"), looks := false }, kinds := [], alts := [], laidByText := true, laidKinds := [.data], laidTests := true, laidLooks := .later }
def DeltaOpensUptoCardSaid : Prop := Claim7.holds Tryd.pinned (.plain (OpenSpec.upto deltaOpensSpec)) deltaOpensUptoCard

/-- THE SECOND FORM's CARD OF 'gaugehouselaw.XorOpens'. -/
def xorOpensUptoCard : Claim7 := { stood := { row := xorOpensUptoRow, standIns := [], harness := (true, "3c5abb2090407671dce5ba00981475f2241057edb3aefee82f9254eaf5e14f7e"), looks := false }, kinds := [], alts := [], laidByText := true, laidKinds := [.data], laidTests := true, laidLooks := .later }
def XorOpensUptoCardSaid : Prop := Claim7.holds Tryd.pinned (.plain (OpenSpec.upto xorOpensSpec)) xorOpensUptoCard
end Rows
end Go.Proofs.YtmbmognhbljliaaDoor
