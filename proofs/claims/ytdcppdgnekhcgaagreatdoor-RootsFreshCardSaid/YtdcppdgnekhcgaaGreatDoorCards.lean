/-
  DERIVED. GIVEN WITH THE SEED: THE CARDS: each row of YtdcppdgnekhcgaaGreatDoorRows.lean that lists a variable, with what it lists TIED to the program's text (the seventh form; the later family's looks); each row that meets fmt, with fmt's text TOLD by the authors' own Lean function (tested against real Go, not proved from fmt's source: count such statements apart). THE CARD IS WHAT COUNTS. Prove the row's statement (the work); the ties are given (YtdcppdgnekhcgaaGreatDoorTie.lean); close each card by the builder's one call (the guide's Derived/Test/ToyasCard.lean, 'card_holds'). Laid BY PROGRAM, IN A SANDBOX (cutbox-door.mjs). By AI agents, Wed Nov 11 2026. No macro, syntax, notation, axiom, sorry.
-/
import Derived.Test.YtdcppdgnekhcgaaGreatDoorRows
import GoSem.ClaimSeven
namespace Go.Proofs.YtdcppdgnekhcgaaGreatDoor
namespace Rows

/-- THE TIED CARD OF 'middenlaw12.PolicyTells'. -/
def policyTellsCard : Claim7 := { stood := { row := policyTellsRow, standIns := [], harness := (true, "a5d29043bc9532b61745d012c0455dbcd934f089b2396a8d667c30f0d23e9763"), looks := false }, kinds := [], alts := [], laidByText := true, laidKinds := [.data, .data, .data], laidTests := true, laidLooks := .later }
def PolicyTellsCardSaid : Prop := Claim7.holds Tryz.pinned (.plain (OpenSpec.ofChange policyTellsSpec)) policyTellsCard

/-- THE TIED CARD OF 'middenlaw5.RootsFresh'. -/
def rootsFreshCard : Claim7 := { stood := { row := rootsFreshRow, standIns := [], harness := (true, "a5d29043bc9532b61745d012c0455dbcd934f089b2396a8d667c30f0d23e9763"), looks := false }, kinds := [], alts := [], laidByText := true, laidKinds := [.data, .data, .data], laidTests := true, laidLooks := .later }
def RootsFreshCardSaid : Prop := Claim7.holds Tryz.pinned (.plain (OpenSpec.ofChange rootsFreshSpec)) rootsFreshCard

/-- THE SECOND FORM's CARD OF 'middenlaw12.PolicyTells'. -/
def policyTellsUptoCard : Claim7 := { stood := { row := policyTellsUptoRow, standIns := [], harness := (true, "a5d29043bc9532b61745d012c0455dbcd934f089b2396a8d667c30f0d23e9763"), looks := false }, kinds := [], alts := [], laidByText := true, laidKinds := [.data, .data, .data], laidTests := true, laidLooks := .later }
def PolicyTellsUptoCardSaid : Prop := Claim7.holds Tryz.pinned (.plain (OpenSpec.upto policyTellsSpec)) policyTellsUptoCard

/-- THE SECOND FORM's CARD OF 'middenlaw5.RootsFresh'. -/
def rootsFreshUptoCard : Claim7 := { stood := { row := rootsFreshUptoRow, standIns := [], harness := (true, "a5d29043bc9532b61745d012c0455dbcd934f089b2396a8d667c30f0d23e9763"), looks := false }, kinds := [], alts := [], laidByText := true, laidKinds := [.data, .data, .data], laidTests := true, laidLooks := .later }
def RootsFreshUptoCardSaid : Prop := Claim7.holds Tryz.pinned (.plain (OpenSpec.upto rootsFreshSpec)) rootsFreshUptoCard
end Rows
end Go.Proofs.YtdcppdgnekhcgaaGreatDoor
