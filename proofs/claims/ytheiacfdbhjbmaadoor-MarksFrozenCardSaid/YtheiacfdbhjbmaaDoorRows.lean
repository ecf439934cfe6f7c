/-
  NARROWER THAN 'FOR EVERY INPUT', by the rows' own cells (each row's printed sentence says how): MarksStays: laid · MarksSums: laid · MarksFrozen: laid · MarksGoes: laid · MarksSets: laid · MarksAsks: laid · MarksRuns: laid · MarksSlides: laid · MarksPlays: laid.
  DERIVED. THE GIVEN ROWS OF THIS SEAT. 9 by the template 'for every input the law returns true; each argument reads behind the call as it read before'; 0 by the template 'total and deterministic' (their statements: YtheiacfdbhjbmaaDoorTotals.lean).
  GIVEN WITH THE SEED: the statements are not yours to turn. If you find one false, say at which input.
  Laid BY PROGRAM, IN A SANDBOX (cutbox-rows.mjs): the forced cells as the released guide's own fill.sh prints them over the translation 75c9fd3bcdb1e65b… (all of the seat's roots in one cut). By AI agents, Wed Nov 11 2026. No macro, syntax, notation, axiom, sorry.
-/
import Derived.Test.YtheiacfdbhjbmaaDoorChecked
import GoSem.Claim
import GoSem.ClaimJoined
import GoSem.ClaimMapViews
import Derived.JoinedTies
import Derived.KernelRfl
namespace Go.Proofs.YtheiacfdbhjbmaaDoor
/- THE CELL 'sum', in the pinned program and in every row, IS THE sha256 OF THE DUMP (.gsa) THAT YtheiacfdbhjbmaaDoorProg.lean LOADS. Nothing in Lean hashes anything: it is a label: what it is worth is what the hold of that sum in a sandbox is worth. -/
noncomputable def Tryd.pinned : Pinned := { name := "ytheiacfdbhjbmaadoor", sum := "75c9fd3bcdb1e65b21e2318c895f43d54eaeb6fd044fd92a44278e376b70f768", checked := Tryd.checked }
namespace Rows
def none {H : Type} : Left H := { results := [], args := [] }

/- WHAT THE LISTED PACKAGE-LEVEL VARIABLES READ AS WHEN THE CALL BEGINS. Each datum BY PROGRAM (the guide's laid-datum.mjs) off the statement by which the dump's own 'gosem.cut.vars' lays the variable. In a bare row this is a premise. The card (YtheiacfdbhjbmaaDoorCards.lean) ties it to the program's text. -/
def laid_midden_marks_ones {H : Type} : DataW H := .agg [.lit (.int .i64 0), .lit (.int .i64 1), .lit (.int .i64 1), .lit (.int .i64 2), .lit (.int .i64 1), .lit (.int .i64 2), .lit (.int .i64 2), .lit (.int .i64 3), .lit (.int .i64 1), .lit (.int .i64 2), .lit (.int .i64 2), .lit (.int .i64 3), .lit (.int .i64 2), .lit (.int .i64 3), .lit (.int .i64 3), .lit (.int .i64 4)]

/-- 'middenlaw4.MarksStays': WHATEVER THE INPUT: true; the input reads as it did. -/
def marksStaysSpec : ChangeSpec := { name := "marksStays", fn := fun _ => fun
  | [d1, d2, d3, d4] => { results := [.lit (.bool true)], args := [d1, d2, d3, d4] }
  | _ => none }
def marksStaysRow : OpenClaim := { program := "ytheiacfdbhjbmaadoor", sum := "75c9fd3bcdb1e65b21e2318c895f43d54eaeb6fd044fd92a44278e376b70f768", func := "midden/middenlaw4.MarksStays", spec := "marksStays", named := ["midden/marks.ones"], apart := false, laid := [("midden/marks.ones", laid_midden_marks_ones)] }
def MarksStaysSaid : Prop := marksStaysRow.holds Tryd.pinned (OpenSpec.ofChange marksStaysSpec)

/-- ITS FALSE NEIGHBOUR: 'it returns false'. Refute it at one input. -/
def marksStaysWrong : ChangeSpec := { name := "marksStays", fn := fun _ => fun
  | [d1, d2, d3, d4] => { results := [.lit (.bool false)], args := [d1, d2, d3, d4] }
  | _ => none }
def MarksStaysWrongFalsely : Prop := marksStaysRow.holds Tryd.pinned (OpenSpec.ofChange marksStaysWrong)

/-- 'middenlaw4.MarksSums': WHATEVER THE INPUT: true; the input reads as it did. -/
def marksSumsSpec : ChangeSpec := { name := "marksSums", fn := fun _ => fun
  | [d1, d2, d3, d4, d5] => { results := [.lit (.bool true)], args := [d1, d2, d3, d4, d5] }
  | _ => none }
def marksSumsRow : OpenClaim := { program := "ytheiacfdbhjbmaadoor", sum := "75c9fd3bcdb1e65b21e2318c895f43d54eaeb6fd044fd92a44278e376b70f768", func := "midden/middenlaw4.MarksSums", spec := "marksSums", unfollowed := true, recurses := true, named := ["midden/marks.ones"], apart := false, laid := [("midden/marks.ones", laid_midden_marks_ones)] }
def MarksSumsSaid : Prop := marksSumsRow.holds Tryd.pinned (OpenSpec.ofChange marksSumsSpec)

/-- ITS FALSE NEIGHBOUR: 'it returns false'. Refute it at one input. -/
def marksSumsWrong : ChangeSpec := { name := "marksSums", fn := fun _ => fun
  | [d1, d2, d3, d4, d5] => { results := [.lit (.bool false)], args := [d1, d2, d3, d4, d5] }
  | _ => none }
def MarksSumsWrongFalsely : Prop := marksSumsRow.holds Tryd.pinned (OpenSpec.ofChange marksSumsWrong)

/-- 'middenlaw4.MarksFrozen': WHATEVER THE INPUT: true; the input reads as it did. -/
def marksFrozenSpec : ChangeSpec := { name := "marksFrozen", fn := fun _ => fun
  | [d1, d2, d3, d4] => { results := [.lit (.bool true)], args := [d1, d2, d3, d4] }
  | _ => none }
def marksFrozenRow : OpenClaim := { program := "ytheiacfdbhjbmaadoor", sum := "75c9fd3bcdb1e65b21e2318c895f43d54eaeb6fd044fd92a44278e376b70f768", func := "midden/middenlaw4.MarksFrozen", spec := "marksFrozen", unfollowed := true, recurses := true, named := ["midden/marks.ones"], apart := false, laid := [("midden/marks.ones", laid_midden_marks_ones)] }
def MarksFrozenSaid : Prop := marksFrozenRow.holds Tryd.pinned (OpenSpec.ofChange marksFrozenSpec)

/-- ITS FALSE NEIGHBOUR: 'it returns false'. Refute it at one input. -/
def marksFrozenWrong : ChangeSpec := { name := "marksFrozen", fn := fun _ => fun
  | [d1, d2, d3, d4] => { results := [.lit (.bool false)], args := [d1, d2, d3, d4] }
  | _ => none }
def MarksFrozenWrongFalsely : Prop := marksFrozenRow.holds Tryd.pinned (OpenSpec.ofChange marksFrozenWrong)

/-- 'middenlaw4.MarksGoes': WHATEVER THE INPUT: true; the input reads as it did. -/
def marksGoesSpec : ChangeSpec := { name := "marksGoes", fn := fun _ => fun
  | [d1, d2, d3, d4, d5] => { results := [.lit (.bool true)], args := [d1, d2, d3, d4, d5] }
  | _ => none }
def marksGoesRow : OpenClaim := { program := "ytheiacfdbhjbmaadoor", sum := "75c9fd3bcdb1e65b21e2318c895f43d54eaeb6fd044fd92a44278e376b70f768", func := "midden/middenlaw4.MarksGoes", spec := "marksGoes", named := ["midden/marks.ones"], apart := false, laid := [("midden/marks.ones", laid_midden_marks_ones)] }
def MarksGoesSaid : Prop := marksGoesRow.holds Tryd.pinned (OpenSpec.ofChange marksGoesSpec)

/-- ITS FALSE NEIGHBOUR: 'it returns false'. Refute it at one input. -/
def marksGoesWrong : ChangeSpec := { name := "marksGoes", fn := fun _ => fun
  | [d1, d2, d3, d4, d5] => { results := [.lit (.bool false)], args := [d1, d2, d3, d4, d5] }
  | _ => none }
def MarksGoesWrongFalsely : Prop := marksGoesRow.holds Tryd.pinned (OpenSpec.ofChange marksGoesWrong)

/-- 'middenlaw4.MarksSets': WHATEVER THE INPUT: true; the input reads as it did. -/
def marksSetsSpec : ChangeSpec := { name := "marksSets", fn := fun _ => fun
  | [d1, d2] => { results := [.lit (.bool true)], args := [d1, d2] }
  | _ => none }
def marksSetsRow : OpenClaim := { program := "ytheiacfdbhjbmaadoor", sum := "75c9fd3bcdb1e65b21e2318c895f43d54eaeb6fd044fd92a44278e376b70f768", func := "midden/middenlaw4.MarksSets", spec := "marksSets", unfollowed := true, recurses := true, named := ["midden/marks.ones"], apart := false, laid := [("midden/marks.ones", laid_midden_marks_ones)] }
def MarksSetsSaid : Prop := marksSetsRow.holds Tryd.pinned (OpenSpec.ofChange marksSetsSpec)

/-- ITS FALSE NEIGHBOUR: 'it returns false'. Refute it at one input. -/
def marksSetsWrong : ChangeSpec := { name := "marksSets", fn := fun _ => fun
  | [d1, d2] => { results := [.lit (.bool false)], args := [d1, d2] }
  | _ => none }
def MarksSetsWrongFalsely : Prop := marksSetsRow.holds Tryd.pinned (OpenSpec.ofChange marksSetsWrong)

/-- 'middenlaw4.MarksAsks': WHATEVER THE INPUT: true; the input reads as it did. -/
def marksAsksSpec : ChangeSpec := { name := "marksAsks", fn := fun _ => fun
  | [d1, d2] => { results := [.lit (.bool true)], args := [d1, d2] }
  | _ => none }
def marksAsksRow : OpenClaim := { program := "ytheiacfdbhjbmaadoor", sum := "75c9fd3bcdb1e65b21e2318c895f43d54eaeb6fd044fd92a44278e376b70f768", func := "midden/middenlaw4.MarksAsks", spec := "marksAsks", unfollowed := true, recurses := true, named := ["midden/marks.ones"], apart := false, laid := [("midden/marks.ones", laid_midden_marks_ones)] }
def MarksAsksSaid : Prop := marksAsksRow.holds Tryd.pinned (OpenSpec.ofChange marksAsksSpec)

/-- ITS FALSE NEIGHBOUR: 'it returns false'. Refute it at one input. -/
def marksAsksWrong : ChangeSpec := { name := "marksAsks", fn := fun _ => fun
  | [d1, d2] => { results := [.lit (.bool false)], args := [d1, d2] }
  | _ => none }
def MarksAsksWrongFalsely : Prop := marksAsksRow.holds Tryd.pinned (OpenSpec.ofChange marksAsksWrong)

/-- 'middenlaw4.MarksRuns': WHATEVER THE INPUT: true; the input reads as it did. -/
def marksRunsSpec : ChangeSpec := { name := "marksRuns", fn := fun _ => fun
  | [d1, d2] => { results := [.lit (.bool true)], args := [d1, d2] }
  | _ => none }
def marksRunsRow : OpenClaim := { program := "ytheiacfdbhjbmaadoor", sum := "75c9fd3bcdb1e65b21e2318c895f43d54eaeb6fd044fd92a44278e376b70f768", func := "midden/middenlaw4.MarksRuns", spec := "marksRuns", unfollowed := true, recurses := true, named := ["midden/marks.ones"], apart := false, laid := [("midden/marks.ones", laid_midden_marks_ones)] }
def MarksRunsSaid : Prop := marksRunsRow.holds Tryd.pinned (OpenSpec.ofChange marksRunsSpec)

/-- ITS FALSE NEIGHBOUR: 'it returns false'. Refute it at one input. -/
def marksRunsWrong : ChangeSpec := { name := "marksRuns", fn := fun _ => fun
  | [d1, d2] => { results := [.lit (.bool false)], args := [d1, d2] }
  | _ => none }
def MarksRunsWrongFalsely : Prop := marksRunsRow.holds Tryd.pinned (OpenSpec.ofChange marksRunsWrong)

/-- 'middenlaw4.MarksSlides': WHATEVER THE INPUT: true; the input reads as it did. -/
def marksSlidesSpec : ChangeSpec := { name := "marksSlides", fn := fun _ => fun
  | [d1, d2] => { results := [.lit (.bool true)], args := [d1, d2] }
  | _ => none }
def marksSlidesRow : OpenClaim := { program := "ytheiacfdbhjbmaadoor", sum := "75c9fd3bcdb1e65b21e2318c895f43d54eaeb6fd044fd92a44278e376b70f768", func := "midden/middenlaw4.MarksSlides", spec := "marksSlides", unfollowed := true, recurses := true, named := ["midden/marks.ones"], apart := false, laid := [("midden/marks.ones", laid_midden_marks_ones)] }
def MarksSlidesSaid : Prop := marksSlidesRow.holds Tryd.pinned (OpenSpec.ofChange marksSlidesSpec)

/-- ITS FALSE NEIGHBOUR: 'it returns false'. Refute it at one input. -/
def marksSlidesWrong : ChangeSpec := { name := "marksSlides", fn := fun _ => fun
  | [d1, d2] => { results := [.lit (.bool false)], args := [d1, d2] }
  | _ => none }
def MarksSlidesWrongFalsely : Prop := marksSlidesRow.holds Tryd.pinned (OpenSpec.ofChange marksSlidesWrong)

/-- 'middenlaw4.MarksPlays': WHATEVER THE INPUT: true; the input reads as it did. -/
def marksPlaysSpec : ChangeSpec := { name := "marksPlays", fn := fun _ => fun
  | [d1, d2] => { results := [.lit (.bool true)], args := [d1, d2] }
  | _ => none }
def marksPlaysRow : OpenClaim := { program := "ytheiacfdbhjbmaadoor", sum := "75c9fd3bcdb1e65b21e2318c895f43d54eaeb6fd044fd92a44278e376b70f768", func := "midden/middenlaw4.MarksPlays", spec := "marksPlays", unfollowed := true, recurses := true, named := ["midden/marks.ones"], apart := false, laid := [("midden/marks.ones", laid_midden_marks_ones)] }
def MarksPlaysSaid : Prop := marksPlaysRow.holds Tryd.pinned (OpenSpec.ofChange marksPlaysSpec)

/-- ITS FALSE NEIGHBOUR: 'it returns false'. Refute it at one input. -/
def marksPlaysWrong : ChangeSpec := { name := "marksPlays", fn := fun _ => fun
  | [d1, d2] => { results := [.lit (.bool false)], args := [d1, d2] }
  | _ => none }
def MarksPlaysWrongFalsely : Prop := marksPlaysRow.holds Tryd.pinned (OpenSpec.ofChange marksPlaysWrong)

/- THE SECOND FORM. 'bulk': how many values and letters a reading holds, each counted each time it is reached (what is shared counts as often as it is met; a slice's spare places count too). A statement '..UptoSaid' is the law's where the arguments, and the package variables that the reading takes, are together of bulk at most 1048576: NARROWER than '..Said'. Prove '..Said' where nothing that the law and all that it calls make is longer than what came in: it says more and counts as full. Else prove '..UptoSaid'. A law counts once. -/
mutual
def uptoBulk {H : Type} : DataW H → Nat
  | .lit (.string bytes) => bytes.length + 1
  | .lit _ => 1
  | .nil => 1
  | .ptr d => uptoBulk d + 1
  | .slice elems spare => uptoBulkAll elems + uptoBulkAll spare + 1
  | .agg parts => uptoBulkAll parts + 1
  | .iface _ d => uptoBulk d + 1
  | .map entries => uptoBulkEntries entries + 1
  | .held _ => 1
def uptoBulkAll {H : Type} : List (DataW H) → Nat
  | [] => 0
  | d :: r => uptoBulk d + uptoBulkAll r
def uptoBulkEntries {H : Type} : List (Lit × DataW H) → Nat
  | [] => 0
  | x :: r => uptoBulkEntry x + uptoBulkEntries r
def uptoBulkEntry {H : Type} : Lit × DataW H → Nat
  | (.string bytes, d) => bytes.length + uptoBulk d + 1
  | (_, d) => uptoBulk d + 1
 end
def uptoSmall : (H : Type) → List (DataW H) → Bool := fun _ ds => decide (uptoBulkAll ds ≤ 1048576)
def OpenSpec.upto (s : _root_.Go.ChangeSpec) : _root_.Go.OpenSpec := { _root_.Go.OpenSpec.ofChange s with cond := some uptoSmall }

/-- 'middenlaw4.MarksStays', WHERE WHAT IT READS IS OF BULK AT MOST 1048576: true; the input reads as it did. -/
def marksStaysUptoRow : OpenClaim := { program := "ytheiacfdbhjbmaadoor", sum := "75c9fd3bcdb1e65b21e2318c895f43d54eaeb6fd044fd92a44278e376b70f768", func := "midden/middenlaw4.MarksStays", spec := "marksStays", named := ["midden/marks.ones"], apart := false, laid := [("midden/marks.ones", laid_midden_marks_ones)], narrowed := true }
def MarksStaysUptoSaid : Prop := marksStaysUptoRow.holds Tryd.pinned (OpenSpec.upto marksStaysSpec)

/-- 'middenlaw4.MarksSums', WHERE WHAT IT READS IS OF BULK AT MOST 1048576: true; the input reads as it did. -/
def marksSumsUptoRow : OpenClaim := { program := "ytheiacfdbhjbmaadoor", sum := "75c9fd3bcdb1e65b21e2318c895f43d54eaeb6fd044fd92a44278e376b70f768", func := "midden/middenlaw4.MarksSums", spec := "marksSums", unfollowed := true, recurses := true, named := ["midden/marks.ones"], apart := false, laid := [("midden/marks.ones", laid_midden_marks_ones)], narrowed := true }
def MarksSumsUptoSaid : Prop := marksSumsUptoRow.holds Tryd.pinned (OpenSpec.upto marksSumsSpec)

/-- 'middenlaw4.MarksFrozen', WHERE WHAT IT READS IS OF BULK AT MOST 1048576: true; the input reads as it did. -/
def marksFrozenUptoRow : OpenClaim := { program := "ytheiacfdbhjbmaadoor", sum := "75c9fd3bcdb1e65b21e2318c895f43d54eaeb6fd044fd92a44278e376b70f768", func := "midden/middenlaw4.MarksFrozen", spec := "marksFrozen", unfollowed := true, recurses := true, named := ["midden/marks.ones"], apart := false, laid := [("midden/marks.ones", laid_midden_marks_ones)], narrowed := true }
def MarksFrozenUptoSaid : Prop := marksFrozenUptoRow.holds Tryd.pinned (OpenSpec.upto marksFrozenSpec)

/-- 'middenlaw4.MarksGoes', WHERE WHAT IT READS IS OF BULK AT MOST 1048576: true; the input reads as it did. -/
def marksGoesUptoRow : OpenClaim := { program := "ytheiacfdbhjbmaadoor", sum := "75c9fd3bcdb1e65b21e2318c895f43d54eaeb6fd044fd92a44278e376b70f768", func := "midden/middenlaw4.MarksGoes", spec := "marksGoes", named := ["midden/marks.ones"], apart := false, laid := [("midden/marks.ones", laid_midden_marks_ones)], narrowed := true }
def MarksGoesUptoSaid : Prop := marksGoesUptoRow.holds Tryd.pinned (OpenSpec.upto marksGoesSpec)

/-- 'middenlaw4.MarksSets', WHERE WHAT IT READS IS OF BULK AT MOST 1048576: true; the input reads as it did. -/
def marksSetsUptoRow : OpenClaim := { program := "ytheiacfdbhjbmaadoor", sum := "75c9fd3bcdb1e65b21e2318c895f43d54eaeb6fd044fd92a44278e376b70f768", func := "midden/middenlaw4.MarksSets", spec := "marksSets", unfollowed := true, recurses := true, named := ["midden/marks.ones"], apart := false, laid := [("midden/marks.ones", laid_midden_marks_ones)], narrowed := true }
def MarksSetsUptoSaid : Prop := marksSetsUptoRow.holds Tryd.pinned (OpenSpec.upto marksSetsSpec)

/-- 'middenlaw4.MarksAsks', WHERE WHAT IT READS IS OF BULK AT MOST 1048576: true; the input reads as it did. -/
def marksAsksUptoRow : OpenClaim := { program := "ytheiacfdbhjbmaadoor", sum := "75c9fd3bcdb1e65b21e2318c895f43d54eaeb6fd044fd92a44278e376b70f768", func := "midden/middenlaw4.MarksAsks", spec := "marksAsks", unfollowed := true, recurses := true, named := ["midden/marks.ones"], apart := false, laid := [("midden/marks.ones", laid_midden_marks_ones)], narrowed := true }
def MarksAsksUptoSaid : Prop := marksAsksUptoRow.holds Tryd.pinned (OpenSpec.upto marksAsksSpec)

/-- 'middenlaw4.MarksRuns', WHERE WHAT IT READS IS OF BULK AT MOST 1048576: true; the input reads as it did. -/
def marksRunsUptoRow : OpenClaim := { program := "ytheiacfdbhjbmaadoor", sum := "75c9fd3bcdb1e65b21e2318c895f43d54eaeb6fd044fd92a44278e376b70f768", func := "midden/middenlaw4.MarksRuns", spec := "marksRuns", unfollowed := true, recurses := true, named := ["midden/marks.ones"], apart := false, laid := [("midden/marks.ones", laid_midden_marks_ones)], narrowed := true }
def MarksRunsUptoSaid : Prop := marksRunsUptoRow.holds Tryd.pinned (OpenSpec.upto marksRunsSpec)

/-- 'middenlaw4.MarksSlides', WHERE WHAT IT READS IS OF BULK AT MOST 1048576: true; the input reads as it did. -/
def marksSlidesUptoRow : OpenClaim := { program := "ytheiacfdbhjbmaadoor", sum := "75c9fd3bcdb1e65b21e2318c895f43d54eaeb6fd044fd92a44278e376b70f768", func := "midden/middenlaw4.MarksSlides", spec := "marksSlides", unfollowed := true, recurses := true, named := ["midden/marks.ones"], apart := false, laid := [("midden/marks.ones", laid_midden_marks_ones)], narrowed := true }
def MarksSlidesUptoSaid : Prop := marksSlidesUptoRow.holds Tryd.pinned (OpenSpec.upto marksSlidesSpec)

/-- 'middenlaw4.MarksPlays', WHERE WHAT IT READS IS OF BULK AT MOST 1048576: true; the input reads as it did. -/
def marksPlaysUptoRow : OpenClaim := { program := "ytheiacfdbhjbmaadoor", sum := "75c9fd3bcdb1e65b21e2318c895f43d54eaeb6fd044fd92a44278e376b70f768", func := "midden/middenlaw4.MarksPlays", spec := "marksPlays", unfollowed := true, recurses := true, named := ["midden/marks.ones"], apart := false, laid := [("midden/marks.ones", laid_midden_marks_ones)], narrowed := true }
def MarksPlaysUptoSaid : Prop := marksPlaysUptoRow.holds Tryd.pinned (OpenSpec.upto marksPlaysSpec)

end Rows
end Go.Proofs.YtheiacfdbhjbmaaDoor
