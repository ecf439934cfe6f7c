/-
  No cell of these rows narrows 'for every input' (looked for: loops, veiled, ifaces, maps, wideKeys, modest, calm, conditions, laid).
  DERIVED. THE GIVEN ROWS OF THIS SEAT. 7 by the template 'for every input the law returns true; each argument reads behind the call as it read before'; 0 by the template 'total and deterministic' (their statements: YtfleghijkchpeaaTotals.lean).
  GIVEN WITH THE SEED: the statements are not yours to turn. If you find one false, say at which input.
  Laid BY PROGRAM, IN A SANDBOX (cutbox-rows.mjs): the forced cells as the released guide's own fill.sh prints them over the translation 11bf8043839aa346… (all of the seat's roots in one cut). By AI agents, Wed Nov 11 2026. No macro, syntax, notation, axiom, sorry.
-/
import Derived.Test.YtfleghijkchpeaaChecked
import GoSem.Claim
import GoSem.ClaimJoined
import GoSem.ClaimMapViews
import Derived.JoinedTies
import Derived.KernelRfl
namespace Go.Proofs.Ytfleghijkchpeaa
/- THE CELL 'sum', in the pinned program and in every row, IS THE sha256 OF THE DUMP (.gsa) THAT YtfleghijkchpeaaProg.lean LOADS. Nothing in Lean hashes anything: it is a label: what it is worth is what the hold of that sum in a sandbox is worth. -/
noncomputable def Try.pinned : Pinned := { name := "ytfleghijkchpeaa", sum := "11bf8043839aa346533c84ce34440ade7ec0fc2ecfa17587c41ccd0a04959820", checked := Try.checked }
namespace Rows
def none {H : Type} : Left H := { results := [], args := [] }

/-- 'middenlaw1.BagNames': WHATEVER THE INPUT: true; the input reads as it did. -/
def bagNamesSpec : ChangeSpec := { name := "bagNames", fn := fun _ => fun
  | [] => { results := [.lit (.bool true)], args := [] }
  | _ => none }
def bagNamesRow : OpenClaim := { program := "ytfleghijkchpeaa", sum := "11bf8043839aa346533c84ce34440ade7ec0fc2ecfa17587c41ccd0a04959820", func := "midden/middenlaw1.BagNames", spec := "bagNames", apart := false }
def BagNamesSaid : Prop := bagNamesRow.holds Try.pinned (OpenSpec.ofChange bagNamesSpec)

/-- ITS FALSE NEIGHBOUR: 'it returns false'. Refute it at one input. -/
def bagNamesWrong : ChangeSpec := { name := "bagNames", fn := fun _ => fun
  | [] => { results := [.lit (.bool false)], args := [] }
  | _ => none }
def BagNamesWrongFalsely : Prop := bagNamesRow.holds Try.pinned (OpenSpec.ofChange bagNamesWrong)

/-- 'middenlaw4.MarksNames': WHATEVER THE INPUT: true; the input reads as it did. -/
def marksNamesSpec : ChangeSpec := { name := "marksNames", fn := fun _ => fun
  | [] => { results := [.lit (.bool true)], args := [] }
  | _ => none }
def marksNamesRow : OpenClaim := { program := "ytfleghijkchpeaa", sum := "11bf8043839aa346533c84ce34440ade7ec0fc2ecfa17587c41ccd0a04959820", func := "midden/middenlaw4.MarksNames", spec := "marksNames", apart := false }
def MarksNamesSaid : Prop := marksNamesRow.holds Try.pinned (OpenSpec.ofChange marksNamesSpec)

/-- ITS FALSE NEIGHBOUR: 'it returns false'. Refute it at one input. -/
def marksNamesWrong : ChangeSpec := { name := "marksNames", fn := fun _ => fun
  | [] => { results := [.lit (.bool false)], args := [] }
  | _ => none }
def MarksNamesWrongFalsely : Prop := marksNamesRow.holds Try.pinned (OpenSpec.ofChange marksNamesWrong)

/-- 'middenlaw5.RootsNames': WHATEVER THE INPUT: true; the input reads as it did. -/
def rootsNamesSpec : ChangeSpec := { name := "rootsNames", fn := fun _ => fun
  | [] => { results := [.lit (.bool true)], args := [] }
  | _ => none }
def rootsNamesRow : OpenClaim := { program := "ytfleghijkchpeaa", sum := "11bf8043839aa346533c84ce34440ade7ec0fc2ecfa17587c41ccd0a04959820", func := "midden/middenlaw5.RootsNames", spec := "rootsNames", apart := false }
def RootsNamesSaid : Prop := rootsNamesRow.holds Try.pinned (OpenSpec.ofChange rootsNamesSpec)

/-- ITS FALSE NEIGHBOUR: 'it returns false'. Refute it at one input. -/
def rootsNamesWrong : ChangeSpec := { name := "rootsNames", fn := fun _ => fun
  | [] => { results := [.lit (.bool false)], args := [] }
  | _ => none }
def RootsNamesWrongFalsely : Prop := rootsNamesRow.holds Try.pinned (OpenSpec.ofChange rootsNamesWrong)

/-- 'middenlaw7.TenureNames': WHATEVER THE INPUT: true; the input reads as it did. -/
def tenureNamesSpec : ChangeSpec := { name := "tenureNames", fn := fun _ => fun
  | [] => { results := [.lit (.bool true)], args := [] }
  | _ => none }
def tenureNamesRow : OpenClaim := { program := "ytfleghijkchpeaa", sum := "11bf8043839aa346533c84ce34440ade7ec0fc2ecfa17587c41ccd0a04959820", func := "midden/middenlaw7.TenureNames", spec := "tenureNames", apart := false }
def TenureNamesSaid : Prop := tenureNamesRow.holds Try.pinned (OpenSpec.ofChange tenureNamesSpec)

/-- ITS FALSE NEIGHBOUR: 'it returns false'. Refute it at one input. -/
def tenureNamesWrong : ChangeSpec := { name := "tenureNames", fn := fun _ => fun
  | [] => { results := [.lit (.bool false)], args := [] }
  | _ => none }
def TenureNamesWrongFalsely : Prop := tenureNamesRow.holds Try.pinned (OpenSpec.ofChange tenureNamesWrong)

/-- 'middenlaw12.PolicyNames': WHATEVER THE INPUT: true; the input reads as it did. -/
def policyNamesSpec : ChangeSpec := { name := "policyNames", fn := fun _ => fun
  | [] => { results := [.lit (.bool true)], args := [] }
  | _ => none }
def policyNamesRow : OpenClaim := { program := "ytfleghijkchpeaa", sum := "11bf8043839aa346533c84ce34440ade7ec0fc2ecfa17587c41ccd0a04959820", func := "midden/middenlaw12.PolicyNames", spec := "policyNames", apart := false }
def PolicyNamesSaid : Prop := policyNamesRow.holds Try.pinned (OpenSpec.ofChange policyNamesSpec)

/-- ITS FALSE NEIGHBOUR: 'it returns false'. Refute it at one input. -/
def policyNamesWrong : ChangeSpec := { name := "policyNames", fn := fun _ => fun
  | [] => { results := [.lit (.bool false)], args := [] }
  | _ => none }
def PolicyNamesWrongFalsely : Prop := policyNamesRow.holds Try.pinned (OpenSpec.ofChange policyNamesWrong)

/-- 'middenlaw18.ScriptNames': WHATEVER THE INPUT: true; the input reads as it did. -/
def scriptNamesSpec : ChangeSpec := { name := "scriptNames", fn := fun _ => fun
  | [] => { results := [.lit (.bool true)], args := [] }
  | _ => none }
def scriptNamesRow : OpenClaim := { program := "ytfleghijkchpeaa", sum := "11bf8043839aa346533c84ce34440ade7ec0fc2ecfa17587c41ccd0a04959820", func := "midden/middenlaw18.ScriptNames", spec := "scriptNames", apart := false }
def ScriptNamesSaid : Prop := scriptNamesRow.holds Try.pinned (OpenSpec.ofChange scriptNamesSpec)

/-- ITS FALSE NEIGHBOUR: 'it returns false'. Refute it at one input. -/
def scriptNamesWrong : ChangeSpec := { name := "scriptNames", fn := fun _ => fun
  | [] => { results := [.lit (.bool false)], args := [] }
  | _ => none }
def ScriptNamesWrongFalsely : Prop := scriptNamesRow.holds Try.pinned (OpenSpec.ofChange scriptNamesWrong)

/-- 'middentop.TopNames': WHATEVER THE INPUT: true; the input reads as it did. -/
def topNamesSpec : ChangeSpec := { name := "topNames", fn := fun _ => fun
  | [] => { results := [.lit (.bool true)], args := [] }
  | _ => none }
def topNamesRow : OpenClaim := { program := "ytfleghijkchpeaa", sum := "11bf8043839aa346533c84ce34440ade7ec0fc2ecfa17587c41ccd0a04959820", func := "midden/middentop.TopNames", spec := "topNames", apart := false }
def TopNamesSaid : Prop := topNamesRow.holds Try.pinned (OpenSpec.ofChange topNamesSpec)

/-- ITS FALSE NEIGHBOUR: 'it returns false'. Refute it at one input. -/
def topNamesWrong : ChangeSpec := { name := "topNames", fn := fun _ => fun
  | [] => { results := [.lit (.bool false)], args := [] }
  | _ => none }
def TopNamesWrongFalsely : Prop := topNamesRow.holds Try.pinned (OpenSpec.ofChange topNamesWrong)

/- THE SECOND FORM. 'bulk': how many values and letters a reading holds, each counted each time it is reached (what is shared counts as often as it is met; a slice's spare places count too). A statement '..UptoSaid' is the law's where the arguments, and the package variables that the reading takes, are together of bulk at most 1048576: NARROWER than '..Said'. Prove '..Said' where nothing that the law and all that it calls make is longer than what came in: it says more and counts as full. Else prove '..UptoSaid'. A law counts once. -/
mutual
def uptoBulk {H : Type} : DataW H → Nat
  | .lit (.string bytes) => bytes.length + 1
  | .lit _ => 1
  | .nil => 1
  | .ptr d => uptoBulk d + 1
  | .slice elems spare => uptoBulkAll elems + uptoBulkAll spare + 1
  | .agg parts => uptoBulkAll parts + 1
  | .iface _ d => uptoBulk d + 1
  | .map entries => uptoBulkEntries entries + 1
  | .held _ => 1
def uptoBulkAll {H : Type} : List (DataW H) → Nat
  | [] => 0
  | d :: r => uptoBulk d + uptoBulkAll r
def uptoBulkEntries {H : Type} : List (Lit × DataW H) → Nat
  | [] => 0
  | x :: r => uptoBulkEntry x + uptoBulkEntries r
def uptoBulkEntry {H : Type} : Lit × DataW H → Nat
  | (.string bytes, d) => bytes.length + uptoBulk d + 1
  | (_, d) => uptoBulk d + 1
 end
def uptoSmall : (H : Type) → List (DataW H) → Bool := fun _ ds => decide (uptoBulkAll ds ≤ 1048576)
def OpenSpec.upto (s : _root_.Go.ChangeSpec) : _root_.Go.OpenSpec := { _root_.Go.OpenSpec.ofChange s with cond := some uptoSmall }

/-- 'middenlaw1.BagNames', WHERE WHAT IT READS IS OF BULK AT MOST 1048576: true; the input reads as it did. -/
def bagNamesUptoRow : OpenClaim := { program := "ytfleghijkchpeaa", sum := "11bf8043839aa346533c84ce34440ade7ec0fc2ecfa17587c41ccd0a04959820", func := "midden/middenlaw1.BagNames", spec := "bagNames", apart := false, narrowed := true }
def BagNamesUptoSaid : Prop := bagNamesUptoRow.holds Try.pinned (OpenSpec.upto bagNamesSpec)

/-- 'middenlaw4.MarksNames', WHERE WHAT IT READS IS OF BULK AT MOST 1048576: true; the input reads as it did. -/
def marksNamesUptoRow : OpenClaim := { program := "ytfleghijkchpeaa", sum := "11bf8043839aa346533c84ce34440ade7ec0fc2ecfa17587c41ccd0a04959820", func := "midden/middenlaw4.MarksNames", spec := "marksNames", apart := false, narrowed := true }
def MarksNamesUptoSaid : Prop := marksNamesUptoRow.holds Try.pinned (OpenSpec.upto marksNamesSpec)

/-- 'middenlaw5.RootsNames', WHERE WHAT IT READS IS OF BULK AT MOST 1048576: true; the input reads as it did. -/
def rootsNamesUptoRow : OpenClaim := { program := "ytfleghijkchpeaa", sum := "11bf8043839aa346533c84ce34440ade7ec0fc2ecfa17587c41ccd0a04959820", func := "midden/middenlaw5.RootsNames", spec := "rootsNames", apart := false, narrowed := true }
def RootsNamesUptoSaid : Prop := rootsNamesUptoRow.holds Try.pinned (OpenSpec.upto rootsNamesSpec)

/-- 'middenlaw7.TenureNames', WHERE WHAT IT READS IS OF BULK AT MOST 1048576: true; the input reads as it did. -/
def tenureNamesUptoRow : OpenClaim := { program := "ytfleghijkchpeaa", sum := "11bf8043839aa346533c84ce34440ade7ec0fc2ecfa17587c41ccd0a04959820", func := "midden/middenlaw7.TenureNames", spec := "tenureNames", apart := false, narrowed := true }
def TenureNamesUptoSaid : Prop := tenureNamesUptoRow.holds Try.pinned (OpenSpec.upto tenureNamesSpec)

/-- 'middenlaw12.PolicyNames', WHERE WHAT IT READS IS OF BULK AT MOST 1048576: true; the input reads as it did. -/
def policyNamesUptoRow : OpenClaim := { program := "ytfleghijkchpeaa", sum := "11bf8043839aa346533c84ce34440ade7ec0fc2ecfa17587c41ccd0a04959820", func := "midden/middenlaw12.PolicyNames", spec := "policyNames", apart := false, narrowed := true }
def PolicyNamesUptoSaid : Prop := policyNamesUptoRow.holds Try.pinned (OpenSpec.upto policyNamesSpec)

/-- 'middenlaw18.ScriptNames', WHERE WHAT IT READS IS OF BULK AT MOST 1048576: true; the input reads as it did. -/
def scriptNamesUptoRow : OpenClaim := { program := "ytfleghijkchpeaa", sum := "11bf8043839aa346533c84ce34440ade7ec0fc2ecfa17587c41ccd0a04959820", func := "midden/middenlaw18.ScriptNames", spec := "scriptNames", apart := false, narrowed := true }
def ScriptNamesUptoSaid : Prop := scriptNamesUptoRow.holds Try.pinned (OpenSpec.upto scriptNamesSpec)

/-- 'middentop.TopNames', WHERE WHAT IT READS IS OF BULK AT MOST 1048576: true; the input reads as it did. -/
def topNamesUptoRow : OpenClaim := { program := "ytfleghijkchpeaa", sum := "11bf8043839aa346533c84ce34440ade7ec0fc2ecfa17587c41ccd0a04959820", func := "midden/middentop.TopNames", spec := "topNames", apart := false, narrowed := true }
def TopNamesUptoSaid : Prop := topNamesUptoRow.holds Try.pinned (OpenSpec.upto topNamesSpec)

end Rows
end Go.Proofs.Ytfleghijkchpeaa
