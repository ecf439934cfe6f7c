/-
  DERIVED. GIVEN WITH THE SEED: THE CARDS: each row of YtheiacfdbhjbmaaDoorRows.lean that lists a variable, with what it lists TIED to the program's text (the seventh form; the later family's looks); each row that meets fmt, with fmt's text TOLD by the authors' own Lean function (tested against real Go, not proved from fmt's source: count such statements apart). THE CARD IS WHAT COUNTS. Prove the row's statement (the work); the ties are given (YtheiacfdbhjbmaaDoorTie.lean); close each card by the builder's one call (the guide's Derived/Test/ToyasCard.lean, 'card_holds'). Laid BY PROGRAM, IN A SANDBOX (cutbox-door.mjs). By AI agents, Wed Nov 11 2026. No macro, syntax, notation, axiom, sorry.
-/
import Derived.Test.YtheiacfdbhjbmaaDoorRows
import GoSem.ClaimSeven
namespace Go.Proofs.YtheiacfdbhjbmaaDoor
namespace Rows

/-- THE TIED CARD OF 'middenlaw4.MarksStays'. -/
def marksStaysCard : Claim7 := { stood := { row := marksStaysRow, standIns := [], harness := (true, "3256824af140bb28ae773a5fe6a2e2c306377f1c7e3fc69687ed4436750b4baf"), looks := false }, kinds := [], alts := [], laidByText := true, laidKinds := [.data], laidTests := true, laidLooks := .later }
def MarksStaysCardSaid : Prop := Claim7.holds Tryd.pinned (.plain (OpenSpec.ofChange marksStaysSpec)) marksStaysCard

/-- THE TIED CARD OF 'middenlaw4.MarksSums'. -/
def marksSumsCard : Claim7 := { stood := { row := marksSumsRow, standIns := [], harness := (true, "3256824af140bb28ae773a5fe6a2e2c306377f1c7e3fc69687ed4436750b4baf"), looks := false }, kinds := [], alts := [], laidByText := true, laidKinds := [.data], laidTests := true, laidLooks := .later }
def MarksSumsCardSaid : Prop := Claim7.holds Tryd.pinned (.plain (OpenSpec.ofChange marksSumsSpec)) marksSumsCard

/-- THE TIED CARD OF 'middenlaw4.MarksFrozen'. -/
def marksFrozenCard : Claim7 := { stood := { row := marksFrozenRow, standIns := [], harness := (true, "3256824af140bb28ae773a5fe6a2e2c306377f1c7e3fc69687ed4436750b4baf"), looks := false }, kinds := [], alts := [], laidByText := true, laidKinds := [.data], laidTests := true, laidLooks := .later }
def MarksFrozenCardSaid : Prop := Claim7.holds Tryd.pinned (.plain (OpenSpec.ofChange marksFrozenSpec)) marksFrozenCard

/-- THE TIED CARD OF 'middenlaw4.MarksGoes'. -/
def marksGoesCard : Claim7 := { stood := { row := marksGoesRow, standIns := [], harness := (true, "3256824af140bb28ae773a5fe6a2e2c306377f1c7e3fc69687ed4436750b4baf"), looks := false }, kinds := [], alts := [], laidByText := true, laidKinds := [.data], laidTests := true, laidLooks := .later }
def MarksGoesCardSaid : Prop := Claim7.holds Tryd.pinned (.plain (OpenSpec.ofChange marksGoesSpec)) marksGoesCard

/-- THE TIED CARD OF 'middenlaw4.MarksSets'. -/
def marksSetsCard : Claim7 := { stood := { row := marksSetsRow, standIns := [], harness := (true, "3256824af140bb28ae773a5fe6a2e2c306377f1c7e3fc69687ed4436750b4baf"), looks := false }, kinds := [], alts := [], laidByText := true, laidKinds := [.data], laidTests := true, laidLooks := .later }
def MarksSetsCardSaid : Prop := Claim7.holds Tryd.pinned (.plain (OpenSpec.ofChange marksSetsSpec)) marksSetsCard

/-- THE TIED CARD OF 'middenlaw4.MarksAsks'. -/
def marksAsksCard : Claim7 := { stood := { row := marksAsksRow, standIns := [], harness := (true, "3256824af140bb28ae773a5fe6a2e2c306377f1c7e3fc69687ed4436750b4baf"), looks := false }, kinds := [], alts := [], laidByText := true, laidKinds := [.data], laidTests := true, laidLooks := .later }
def MarksAsksCardSaid : Prop := Claim7.holds Tryd.pinned (.plain (OpenSpec.ofChange marksAsksSpec)) marksAsksCard

/-- THE TIED CARD OF 'middenlaw4.MarksRuns'. -/
def marksRunsCard : Claim7 := { stood := { row := marksRunsRow, standIns := [], harness := (true, "3256824af140bb28ae773a5fe6a2e2c306377f1c7e3fc69687ed4436750b4baf"), looks := false }, kinds := [], alts := [], laidByText := true, laidKinds := [.data], laidTests := true, laidLooks := .later }
def MarksRunsCardSaid : Prop := Claim7.holds Tryd.pinned (.plain (OpenSpec.ofChange marksRunsSpec)) marksRunsCard

/-- THE TIED CARD OF 'middenlaw4.MarksSlides'. -/
def marksSlidesCard : Claim7 := { stood := { row := marksSlidesRow, standIns := [], harness := (true, "3256824af140bb28ae773a5fe6a2e2c306377f1c7e3fc69687ed4436750b4baf"), looks := false }, kinds := [], alts := [], laidByText := true, laidKinds := [.data], laidTests := true, laidLooks := .later }
def MarksSlidesCardSaid : Prop := Claim7.holds Tryd.pinned (.plain (OpenSpec.ofChange marksSlidesSpec)) marksSlidesCard

/-- THE TIED CARD OF 'middenlaw4.MarksPlays'. -/
def marksPlaysCard : Claim7 := { stood := { row := marksPlaysRow, standIns := [], harness := (true, "3256824af140bb28ae773a5fe6a2e2c306377f1c7e3fc69687ed4436750b4baf"), looks := false }, kinds := [], alts := [], laidByText := true, laidKinds := [.data], laidTests := true, laidLooks := .later }
def MarksPlaysCardSaid : Prop := Claim7.holds Tryd.pinned (.plain (OpenSpec.ofChange marksPlaysSpec)) marksPlaysCard

/-- THE SECOND FORM's CARD OF 'middenlaw4.MarksStays'. -/
def marksStaysUptoCard : Claim7 := { stood := { row := marksStaysUptoRow, standIns := [], harness := (true, "3256824af140bb28ae773a5fe6a2e2c306377f1c7e3fc69687ed4436750b4baf"), looks := false }, kinds := [], alts := [], laidByText := true, laidKinds := [.data], laidTests := true, laidLooks := .later }
def MarksStaysUptoCardSaid : Prop := Claim7.holds Tryd.pinned (.plain (OpenSpec.upto marksStaysSpec)) marksStaysUptoCard

/-- THE SECOND FORM's CARD OF 'middenlaw4.MarksSums'. -/
def marksSumsUptoCard : Claim7 := { stood := { row := marksSumsUptoRow, standIns := [], harness := (true, "3256824af140bb28ae773a5fe6a2e2c306377f1c7e3fc69687ed4436750b4baf"), looks := false }, kinds := [], alts := [], laidByText := true, laidKinds := [.data], laidTests := true, laidLooks := .later }
def MarksSumsUptoCardSaid : Prop := Claim7.holds Tryd.pinned (.plain (OpenSpec.upto marksSumsSpec)) marksSumsUptoCard

/-- THE SECOND FORM's CARD OF 'middenlaw4.MarksFrozen'. -/
def marksFrozenUptoCard : Claim7 := { stood := { row := marksFrozenUptoRow, standIns := [], harness := (true, "3256824af140bb28ae773a5fe6a2e2c306377f1c7e3fc69687ed4436750b4baf"), looks := false }, kinds := [], alts := [], laidByText := true, laidKinds := [.data], laidTests := true, laidLooks := .later }
def MarksFrozenUptoCardSaid : Prop := Claim7.holds Tryd.pinned (.plain (OpenSpec.upto marksFrozenSpec)) marksFrozenUptoCard

/-- THE SECOND FORM's CARD OF 'middenlaw4.MarksGoes'. -/
def marksGoesUptoCard : Claim7 := { stood := { row := marksGoesUptoRow, standIns := [], harness := (true, "3256824af140bb28ae773a5fe6a2e2c306377f1c7e3fc69687ed4436750b4baf"), looks := false }, kinds := [], alts := [], laidByText := true, laidKinds := [.data], laidTests := true, laidLooks := .later }
def MarksGoesUptoCardSaid : Prop := Claim7.holds Tryd.pinned (.plain (OpenSpec.upto marksGoesSpec)) marksGoesUptoCard

/-- THE SECOND FORM's CARD OF 'middenlaw4.MarksSets'. -/
def marksSetsUptoCard : Claim7 := { stood := { row := marksSetsUptoRow, standIns := [], harness := (true, "3256824af140bb28ae773a5fe6a2e2c306377f1c7e3fc69687ed4436750b4baf"), looks := false }, kinds := [], alts := [], laidByText := true, laidKinds := [.data], laidTests := true, laidLooks := .later }
def MarksSetsUptoCardSaid : Prop := Claim7.holds Tryd.pinned (.plain (OpenSpec.upto marksSetsSpec)) marksSetsUptoCard

/-- THE SECOND FORM's CARD OF 'middenlaw4.MarksAsks'. -/
def marksAsksUptoCard : Claim7 := { stood := { row := marksAsksUptoRow, standIns := [], harness := (true, "3256824af140bb28ae773a5fe6a2e2c306377f1c7e3fc69687ed4436750b4baf"), looks := false }, kinds := [], alts := [], laidByText := true, laidKinds := [.data], laidTests := true, laidLooks := .later }
def MarksAsksUptoCardSaid : Prop := Claim7.holds Tryd.pinned (.plain (OpenSpec.upto marksAsksSpec)) marksAsksUptoCard

/-- THE SECOND FORM's CARD OF 'middenlaw4.MarksRuns'. -/
def marksRunsUptoCard : Claim7 := { stood := { row := marksRunsUptoRow, standIns := [], harness := (true, "3256824af140bb28ae773a5fe6a2e2c306377f1c7e3fc69687ed4436750b4baf"), looks := false }, kinds := [], alts := [], laidByText := true, laidKinds := [.data], laidTests := true, laidLooks := .later }
def MarksRunsUptoCardSaid : Prop := Claim7.holds Tryd.pinned (.plain (OpenSpec.upto marksRunsSpec)) marksRunsUptoCard

/-- THE SECOND FORM's CARD OF 'middenlaw4.MarksSlides'. -/
def marksSlidesUptoCard : Claim7 := { stood := { row := marksSlidesUptoRow, standIns := [], harness := (true, "3256824af140bb28ae773a5fe6a2e2c306377f1c7e3fc69687ed4436750b4baf"), looks := false }, kinds := [], alts := [], laidByText := true, laidKinds := [.data], laidTests := true, laidLooks := .later }
def MarksSlidesUptoCardSaid : Prop := Claim7.holds Tryd.pinned (.plain (OpenSpec.upto marksSlidesSpec)) marksSlidesUptoCard

/-- THE SECOND FORM's CARD OF 'middenlaw4.MarksPlays'. -/
def marksPlaysUptoCard : Claim7 := { stood := { row := marksPlaysUptoRow, standIns := [], harness := (true, "3256824af140bb28ae773a5fe6a2e2c306377f1c7e3fc69687ed4436750b4baf"), looks := false }, kinds := [], alts := [], laidByText := true, laidKinds := [.data], laidTests := true, laidLooks := .later }
def MarksPlaysUptoCardSaid : Prop := Claim7.holds Tryd.pinned (.plain (OpenSpec.upto marksPlaysSpec)) marksPlaysUptoCard
end Rows
end Go.Proofs.YtheiacfdbhjbmaaDoor
