/-
  DERIVED. GIVEN WITH THE SEED: THE CARDS: each row of YtdcppdgnekhcgaaDoorRows.lean that lists a variable, with what it lists TIED to the program's text (the seventh form; the later family's looks); each row that meets fmt, with fmt's text TOLD by the authors' own Lean function (tested against real Go, not proved from fmt's source: count such statements apart). THE CARD IS WHAT COUNTS. Prove the row's statement (the work); the ties are given (YtdcppdgnekhcgaaDoorTie.lean); close each card by the builder's one call (the guide's Derived/Test/ToyasCard.lean, 'card_holds'). Laid BY PROGRAM, IN A SANDBOX (cutbox-door.mjs). By AI agents, Wed Nov 11 2026. No macro, syntax, notation, axiom, sorry.
-/
import Derived.Test.YtdcppdgnekhcgaaDoorRows
import GoSem.ClaimSeven
namespace Go.Proofs.YtdcppdgnekhcgaaDoor
namespace Rows

/-- THE TIED CARD OF 'middenlaw7.TenureAsks'. -/
def tenureAsksCard : Claim7 := { stood := { row := tenureAsksRow, standIns := [], harness := (true, "a754a20757546d066145d7befd9a90102d667e2d212e9746afb8118f78c83a96"), looks := false }, kinds := [], alts := [], laidByText := true, laidKinds := [.data, .data, .data], laidTests := true, laidLooks := .later }
def TenureAsksCardSaid : Prop := Claim7.holds Tryd.pinned (.plain (OpenSpec.ofChange tenureAsksSpec)) tenureAsksCard

/-- THE SECOND FORM's CARD OF 'middenlaw7.TenureAsks'. -/
def tenureAsksUptoCard : Claim7 := { stood := { row := tenureAsksUptoRow, standIns := [], harness := (true, "a754a20757546d066145d7befd9a90102d667e2d212e9746afb8118f78c83a96"), looks := false }, kinds := [], alts := [], laidByText := true, laidKinds := [.data, .data, .data], laidTests := true, laidLooks := .later }
def TenureAsksUptoCardSaid : Prop := Claim7.holds Tryd.pinned (.plain (OpenSpec.upto tenureAsksSpec)) tenureAsksUptoCard
end Rows
end Go.Proofs.YtdcppdgnekhcgaaDoor
