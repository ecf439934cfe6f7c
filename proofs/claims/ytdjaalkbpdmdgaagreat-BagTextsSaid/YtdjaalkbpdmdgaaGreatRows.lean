/-
  No cell of these rows narrows 'for every input' (looked for: loops, veiled, ifaces, maps, wideKeys, modest, calm, conditions, laid).
  DERIVED. THE GIVEN ROWS OF THIS SEAT. 6 by the template 'for every input the law returns true; each argument reads behind the call as it read before'; 0 by the template 'total and deterministic' (their statements: YtdjaalkbpdmdgaaGreatTotals.lean).
  GIVEN WITH THE SEED: the statements are not yours to turn. If you find one false, say at which input.
  Laid BY PROGRAM, IN A SANDBOX (cutbox-rows.mjs): the forced cells as the released guide's own fill.sh prints them over the translation fb4976611b049cea… (all of the seat's roots in one cut). By AI agents, Wed Nov 11 2026. No macro, syntax, notation, axiom, sorry.
-/
import Derived.Test.YtdjaalkbpdmdgaaGreatChecked
import GoSem.Claim
import GoSem.ClaimJoined
import GoSem.ClaimMapViews
import Derived.JoinedTies
import Derived.KernelRfl
namespace Go.Proofs.YtdjaalkbpdmdgaaGreat
/- THE CELL 'sum', in the pinned program and in every row, IS THE sha256 OF THE DUMP (.gsa) THAT YtdjaalkbpdmdgaaGreatProg.lean LOADS. Nothing in Lean hashes anything: it is a label: what it is worth is what the hold of that sum in a sandbox is worth. -/
noncomputable def Tryz.pinned : Pinned := { name := "ytdjaalkbpdmdgaagreat", sum := "fb4976611b049cea3b4e537b5c3ee10840e46ab93d00019d9dec917cf98a94a5", checked := Tryz.checked }
namespace Rows
def none {H : Type} : Left H := { results := [], args := [] }

/-- 'middenlaw1.BagStacks': WHATEVER THE INPUT: true; the input reads as it did. -/
def bagStacksSpec : ChangeSpec := { name := "bagStacks", fn := fun _ => fun
  | [d1, d2, d3] => { results := [.lit (.bool true)], args := [d1, d2, d3] }
  | _ => none }
def bagStacksRow : OpenClaim := { program := "ytdjaalkbpdmdgaagreat", sum := "fb4976611b049cea3b4e537b5c3ee10840e46ab93d00019d9dec917cf98a94a5", func := "midden/middenlaw1.BagStacks", spec := "bagStacks", unfollowed := true, recurses := true, apart := false }
def BagStacksSaid : Prop := bagStacksRow.holds Tryz.pinned (OpenSpec.ofChange bagStacksSpec)

/-- ITS FALSE NEIGHBOUR: 'it returns false'. Refute it at one input. -/
def bagStacksWrong : ChangeSpec := { name := "bagStacks", fn := fun _ => fun
  | [d1, d2, d3] => { results := [.lit (.bool false)], args := [d1, d2, d3] }
  | _ => none }
def BagStacksWrongFalsely : Prop := bagStacksRow.holds Tryz.pinned (OpenSpec.ofChange bagStacksWrong)

/-- 'middenlaw1.BagQueues': WHATEVER THE INPUT: true; the input reads as it did. -/
def bagQueuesSpec : ChangeSpec := { name := "bagQueues", fn := fun _ => fun
  | [d1, d2, d3] => { results := [.lit (.bool true)], args := [d1, d2, d3] }
  | _ => none }
def bagQueuesRow : OpenClaim := { program := "ytdjaalkbpdmdgaagreat", sum := "fb4976611b049cea3b4e537b5c3ee10840e46ab93d00019d9dec917cf98a94a5", func := "midden/middenlaw1.BagQueues", spec := "bagQueues", unfollowed := true, recurses := true, apart := false }
def BagQueuesSaid : Prop := bagQueuesRow.holds Tryz.pinned (OpenSpec.ofChange bagQueuesSpec)

/-- ITS FALSE NEIGHBOUR: 'it returns false'. Refute it at one input. -/
def bagQueuesWrong : ChangeSpec := { name := "bagQueues", fn := fun _ => fun
  | [d1, d2, d3] => { results := [.lit (.bool false)], args := [d1, d2, d3] }
  | _ => none }
def BagQueuesWrongFalsely : Prop := bagQueuesRow.holds Tryz.pinned (OpenSpec.ofChange bagQueuesWrong)

/-- 'middenlaw1.BagTexts': WHATEVER THE INPUT: true; the input reads as it did. -/
def bagTextsSpec : ChangeSpec := { name := "bagTexts", fn := fun _ => fun
  | [d1, d2, d3] => { results := [.lit (.bool true)], args := [d1, d2, d3] }
  | _ => none }
def bagTextsRow : OpenClaim := { program := "ytdjaalkbpdmdgaagreat", sum := "fb4976611b049cea3b4e537b5c3ee10840e46ab93d00019d9dec917cf98a94a5", func := "midden/middenlaw1.BagTexts", spec := "bagTexts", unfollowed := true, recurses := true, apart := false }
def BagTextsSaid : Prop := bagTextsRow.holds Tryz.pinned (OpenSpec.ofChange bagTextsSpec)

/-- ITS FALSE NEIGHBOUR: 'it returns false'. Refute it at one input. -/
def bagTextsWrong : ChangeSpec := { name := "bagTexts", fn := fun _ => fun
  | [d1, d2, d3] => { results := [.lit (.bool false)], args := [d1, d2, d3] }
  | _ => none }
def BagTextsWrongFalsely : Prop := bagTextsRow.holds Tryz.pinned (OpenSpec.ofChange bagTextsWrong)

/-- 'middenlaw1.BagTables': WHATEVER THE INPUT: true; the input reads as it did. -/
def bagTablesSpec : ChangeSpec := { name := "bagTables", fn := fun _ => fun
  | [d] => { results := [.lit (.bool true)], args := [d] }
  | _ => none }
def bagTablesRow : OpenClaim := { program := "ytdjaalkbpdmdgaagreat", sum := "fb4976611b049cea3b4e537b5c3ee10840e46ab93d00019d9dec917cf98a94a5", func := "midden/middenlaw1.BagTables", spec := "bagTables", unfollowed := true, recurses := true, apart := false }
def BagTablesSaid : Prop := bagTablesRow.holds Tryz.pinned (OpenSpec.ofChange bagTablesSpec)

/-- ITS FALSE NEIGHBOUR: 'it returns false'. Refute it at one input. -/
def bagTablesWrong : ChangeSpec := { name := "bagTables", fn := fun _ => fun
  | [d] => { results := [.lit (.bool false)], args := [d] }
  | _ => none }
def BagTablesWrongFalsely : Prop := bagTablesRow.holds Tryz.pinned (OpenSpec.ofChange bagTablesWrong)

/-- 'middenlaw1.BagNamed': WHATEVER THE INPUT: true; the input reads as it did. -/
def bagNamedSpec : ChangeSpec := { name := "bagNamed", fn := fun _ => fun
  | [d] => { results := [.lit (.bool true)], args := [d] }
  | _ => none }
def bagNamedRow : OpenClaim := { program := "ytdjaalkbpdmdgaagreat", sum := "fb4976611b049cea3b4e537b5c3ee10840e46ab93d00019d9dec917cf98a94a5", func := "midden/middenlaw1.BagNamed", spec := "bagNamed", unfollowed := true, recurses := true, apart := false }
def BagNamedSaid : Prop := bagNamedRow.holds Tryz.pinned (OpenSpec.ofChange bagNamedSpec)

/-- ITS FALSE NEIGHBOUR: 'it returns false'. Refute it at one input. -/
def bagNamedWrong : ChangeSpec := { name := "bagNamed", fn := fun _ => fun
  | [d] => { results := [.lit (.bool false)], args := [d] }
  | _ => none }
def BagNamedWrongFalsely : Prop := bagNamedRow.holds Tryz.pinned (OpenSpec.ofChange bagNamedWrong)

/-- 'middenlaw1.BagPlays': WHATEVER THE INPUT: true; the input reads as it did. -/
def bagPlaysSpec : ChangeSpec := { name := "bagPlays", fn := fun _ => fun
  | [d1, d2, d3] => { results := [.lit (.bool true)], args := [d1, d2, d3] }
  | _ => none }
def bagPlaysRow : OpenClaim := { program := "ytdjaalkbpdmdgaagreat", sum := "fb4976611b049cea3b4e537b5c3ee10840e46ab93d00019d9dec917cf98a94a5", func := "midden/middenlaw1.BagPlays", spec := "bagPlays", unfollowed := true, recurses := true, apart := false }
def BagPlaysSaid : Prop := bagPlaysRow.holds Tryz.pinned (OpenSpec.ofChange bagPlaysSpec)

/-- ITS FALSE NEIGHBOUR: 'it returns false'. Refute it at one input. -/
def bagPlaysWrong : ChangeSpec := { name := "bagPlays", fn := fun _ => fun
  | [d1, d2, d3] => { results := [.lit (.bool false)], args := [d1, d2, d3] }
  | _ => none }
def BagPlaysWrongFalsely : Prop := bagPlaysRow.holds Tryz.pinned (OpenSpec.ofChange bagPlaysWrong)

/- THE SECOND FORM. 'bulk': how many values and letters a reading holds, each counted each time it is reached (what is shared counts as often as it is met; a slice's spare places count too). A statement '..UptoSaid' is the law's where the arguments, and the package variables that the reading takes, are together of bulk at most 1048576: NARROWER than '..Said'. Prove '..Said' where nothing that the law and all that it calls make is longer than what came in: it says more and counts as full. Else prove '..UptoSaid'. A law counts once. -/
mutual
def uptoBulk {H : Type} : DataW H → Nat
  | .lit (.string bytes) => bytes.length + 1
  | .lit _ => 1
  | .nil => 1
  | .ptr d => uptoBulk d + 1
  | .slice elems spare => uptoBulkAll elems + uptoBulkAll spare + 1
  | .agg parts => uptoBulkAll parts + 1
  | .iface _ d => uptoBulk d + 1
  | .map entries => uptoBulkEntries entries + 1
  | .held _ => 1
def uptoBulkAll {H : Type} : List (DataW H) → Nat
  | [] => 0
  | d :: r => uptoBulk d + uptoBulkAll r
def uptoBulkEntries {H : Type} : List (Lit × DataW H) → Nat
  | [] => 0
  | x :: r => uptoBulkEntry x + uptoBulkEntries r
def uptoBulkEntry {H : Type} : Lit × DataW H → Nat
  | (.string bytes, d) => bytes.length + uptoBulk d + 1
  | (_, d) => uptoBulk d + 1
 end
def uptoSmall : (H : Type) → List (DataW H) → Bool := fun _ ds => decide (uptoBulkAll ds ≤ 1048576)
def OpenSpec.upto (s : _root_.Go.ChangeSpec) : _root_.Go.OpenSpec := { _root_.Go.OpenSpec.ofChange s with cond := some uptoSmall }

/-- 'middenlaw1.BagStacks', WHERE WHAT IT READS IS OF BULK AT MOST 1048576: true; the input reads as it did. -/
def bagStacksUptoRow : OpenClaim := { program := "ytdjaalkbpdmdgaagreat", sum := "fb4976611b049cea3b4e537b5c3ee10840e46ab93d00019d9dec917cf98a94a5", func := "midden/middenlaw1.BagStacks", spec := "bagStacks", unfollowed := true, recurses := true, apart := false, narrowed := true }
def BagStacksUptoSaid : Prop := bagStacksUptoRow.holds Tryz.pinned (OpenSpec.upto bagStacksSpec)

/-- 'middenlaw1.BagQueues', WHERE WHAT IT READS IS OF BULK AT MOST 1048576: true; the input reads as it did. -/
def bagQueuesUptoRow : OpenClaim := { program := "ytdjaalkbpdmdgaagreat", sum := "fb4976611b049cea3b4e537b5c3ee10840e46ab93d00019d9dec917cf98a94a5", func := "midden/middenlaw1.BagQueues", spec := "bagQueues", unfollowed := true, recurses := true, apart := false, narrowed := true }
def BagQueuesUptoSaid : Prop := bagQueuesUptoRow.holds Tryz.pinned (OpenSpec.upto bagQueuesSpec)

/-- 'middenlaw1.BagTexts', WHERE WHAT IT READS IS OF BULK AT MOST 1048576: true; the input reads as it did. -/
def bagTextsUptoRow : OpenClaim := { program := "ytdjaalkbpdmdgaagreat", sum := "fb4976611b049cea3b4e537b5c3ee10840e46ab93d00019d9dec917cf98a94a5", func := "midden/middenlaw1.BagTexts", spec := "bagTexts", unfollowed := true, recurses := true, apart := false, narrowed := true }
def BagTextsUptoSaid : Prop := bagTextsUptoRow.holds Tryz.pinned (OpenSpec.upto bagTextsSpec)

/-- 'middenlaw1.BagTables', WHERE WHAT IT READS IS OF BULK AT MOST 1048576: true; the input reads as it did. -/
def bagTablesUptoRow : OpenClaim := { program := "ytdjaalkbpdmdgaagreat", sum := "fb4976611b049cea3b4e537b5c3ee10840e46ab93d00019d9dec917cf98a94a5", func := "midden/middenlaw1.BagTables", spec := "bagTables", unfollowed := true, recurses := true, apart := false, narrowed := true }
def BagTablesUptoSaid : Prop := bagTablesUptoRow.holds Tryz.pinned (OpenSpec.upto bagTablesSpec)

/-- 'middenlaw1.BagNamed', WHERE WHAT IT READS IS OF BULK AT MOST 1048576: true; the input reads as it did. -/
def bagNamedUptoRow : OpenClaim := { program := "ytdjaalkbpdmdgaagreat", sum := "fb4976611b049cea3b4e537b5c3ee10840e46ab93d00019d9dec917cf98a94a5", func := "midden/middenlaw1.BagNamed", spec := "bagNamed", unfollowed := true, recurses := true, apart := false, narrowed := true }
def BagNamedUptoSaid : Prop := bagNamedUptoRow.holds Tryz.pinned (OpenSpec.upto bagNamedSpec)

/-- 'middenlaw1.BagPlays', WHERE WHAT IT READS IS OF BULK AT MOST 1048576: true; the input reads as it did. -/
def bagPlaysUptoRow : OpenClaim := { program := "ytdjaalkbpdmdgaagreat", sum := "fb4976611b049cea3b4e537b5c3ee10840e46ab93d00019d9dec917cf98a94a5", func := "midden/middenlaw1.BagPlays", spec := "bagPlays", unfollowed := true, recurses := true, apart := false, narrowed := true }
def BagPlaysUptoSaid : Prop := bagPlaysUptoRow.holds Tryz.pinned (OpenSpec.upto bagPlaysSpec)

end Rows
end Go.Proofs.YtdjaalkbpdmdgaaGreat
