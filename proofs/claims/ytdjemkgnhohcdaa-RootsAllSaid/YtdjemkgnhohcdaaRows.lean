/-
  No cell of these rows narrows 'for every input' (looked for: loops, veiled, ifaces, maps, wideKeys, modest, calm, conditions, laid).
  DERIVED. THE GIVEN ROWS OF THIS SEAT. 5 by the template 'for every input the law returns true; each argument reads behind the call as it read before'; 0 by the template 'total and deterministic' (their statements: YtdjemkgnhohcdaaTotals.lean).
  GIVEN WITH THE SEED: the statements are not yours to turn. If you find one false, say at which input.
  Laid BY PROGRAM, IN A SANDBOX (cutbox-rows.mjs): the forced cells as the released guide's own fill.sh prints them over the translation fff0f70e7eecfad4… (all of the seat's roots in one cut). By AI agents, Wed Nov 11 2026. No macro, syntax, notation, axiom, sorry.
-/
import Derived.Test.YtdjemkgnhohcdaaChecked
import GoSem.Claim
import GoSem.ClaimJoined
import GoSem.ClaimMapViews
import Derived.JoinedTies
import Derived.KernelRfl
namespace Go.Proofs.Ytdjemkgnhohcdaa
/- THE CELL 'sum', in the pinned program and in every row, IS THE sha256 OF THE DUMP (.gsa) THAT YtdjemkgnhohcdaaProg.lean LOADS. Nothing in Lean hashes anything: it is a label: what it is worth is what the hold of that sum in a sandbox is worth. -/
noncomputable def Try.pinned : Pinned := { name := "ytdjemkgnhohcdaa", sum := "fff0f70e7eecfad4e37d8b392e7b1f85f1603efc5789a263a8ff172cd97c45c7", checked := Try.checked }
namespace Rows
def none {H : Type} : Left H := { results := [], args := [] }

/-- 'middenlaw5.RootsMakes': WHATEVER THE INPUT: true; the input reads as it did. -/
def rootsMakesSpec : ChangeSpec := { name := "rootsMakes", fn := fun _ => fun
  | [d1, d2, d3] => { results := [.lit (.bool true)], args := [d1, d2, d3] }
  | _ => none }
def rootsMakesRow : OpenClaim := { program := "ytdjemkgnhohcdaa", sum := "fff0f70e7eecfad4e37d8b392e7b1f85f1603efc5789a263a8ff172cd97c45c7", func := "midden/middenlaw5.RootsMakes", spec := "rootsMakes", unfollowed := true, recurses := true, apart := false }
def RootsMakesSaid : Prop := rootsMakesRow.holds Try.pinned (OpenSpec.ofChange rootsMakesSpec)

/-- ITS FALSE NEIGHBOUR: 'it returns false'. Refute it at one input. -/
def rootsMakesWrong : ChangeSpec := { name := "rootsMakes", fn := fun _ => fun
  | [d1, d2, d3] => { results := [.lit (.bool false)], args := [d1, d2, d3] }
  | _ => none }
def RootsMakesWrongFalsely : Prop := rootsMakesRow.holds Try.pinned (OpenSpec.ofChange rootsMakesWrong)

/-- 'middenlaw5.RootsFrames': WHATEVER THE INPUT: true; the input reads as it did. -/
def rootsFramesSpec : ChangeSpec := { name := "rootsFrames", fn := fun _ => fun
  | [d1, d2, d3, d4, d5, d6, d7, d8] => { results := [.lit (.bool true)], args := [d1, d2, d3, d4, d5, d6, d7, d8] }
  | _ => none }
def rootsFramesRow : OpenClaim := { program := "ytdjemkgnhohcdaa", sum := "fff0f70e7eecfad4e37d8b392e7b1f85f1603efc5789a263a8ff172cd97c45c7", func := "midden/middenlaw5.RootsFrames", spec := "rootsFrames", unfollowed := true, recurses := true, apart := false }
def RootsFramesSaid : Prop := rootsFramesRow.holds Try.pinned (OpenSpec.ofChange rootsFramesSpec)

/-- ITS FALSE NEIGHBOUR: 'it returns false'. Refute it at one input. -/
def rootsFramesWrong : ChangeSpec := { name := "rootsFrames", fn := fun _ => fun
  | [d1, d2, d3, d4, d5, d6, d7, d8] => { results := [.lit (.bool false)], args := [d1, d2, d3, d4, d5, d6, d7, d8] }
  | _ => none }
def RootsFramesWrongFalsely : Prop := rootsFramesRow.holds Try.pinned (OpenSpec.ofChange rootsFramesWrong)

/-- 'middenlaw5.RootsMoves': WHATEVER THE INPUT: true; the input reads as it did. -/
def rootsMovesSpec : ChangeSpec := { name := "rootsMoves", fn := fun _ => fun
  | [d1, d2, d3, d4, d5] => { results := [.lit (.bool true)], args := [d1, d2, d3, d4, d5] }
  | _ => none }
def rootsMovesRow : OpenClaim := { program := "ytdjemkgnhohcdaa", sum := "fff0f70e7eecfad4e37d8b392e7b1f85f1603efc5789a263a8ff172cd97c45c7", func := "midden/middenlaw5.RootsMoves", spec := "rootsMoves", unfollowed := true, recurses := true, apart := false }
def RootsMovesSaid : Prop := rootsMovesRow.holds Try.pinned (OpenSpec.ofChange rootsMovesSpec)

/-- ITS FALSE NEIGHBOUR: 'it returns false'. Refute it at one input. -/
def rootsMovesWrong : ChangeSpec := { name := "rootsMoves", fn := fun _ => fun
  | [d1, d2, d3, d4, d5] => { results := [.lit (.bool false)], args := [d1, d2, d3, d4, d5] }
  | _ => none }
def RootsMovesWrongFalsely : Prop := rootsMovesRow.holds Try.pinned (OpenSpec.ofChange rootsMovesWrong)

/-- 'middenlaw5.RootsHandles': WHATEVER THE INPUT: true; the input reads as it did. -/
def rootsHandlesSpec : ChangeSpec := { name := "rootsHandles", fn := fun _ => fun
  | [d1, d2, d3, d4, d5] => { results := [.lit (.bool true)], args := [d1, d2, d3, d4, d5] }
  | _ => none }
def rootsHandlesRow : OpenClaim := { program := "ytdjemkgnhohcdaa", sum := "fff0f70e7eecfad4e37d8b392e7b1f85f1603efc5789a263a8ff172cd97c45c7", func := "midden/middenlaw5.RootsHandles", spec := "rootsHandles", unfollowed := true, recurses := true, apart := false }
def RootsHandlesSaid : Prop := rootsHandlesRow.holds Try.pinned (OpenSpec.ofChange rootsHandlesSpec)

/-- ITS FALSE NEIGHBOUR: 'it returns false'. Refute it at one input. -/
def rootsHandlesWrong : ChangeSpec := { name := "rootsHandles", fn := fun _ => fun
  | [d1, d2, d3, d4, d5] => { results := [.lit (.bool false)], args := [d1, d2, d3, d4, d5] }
  | _ => none }
def RootsHandlesWrongFalsely : Prop := rootsHandlesRow.holds Try.pinned (OpenSpec.ofChange rootsHandlesWrong)

/-- 'middenlaw5.RootsAll': WHATEVER THE INPUT: true; the input reads as it did. -/
def rootsAllSpec : ChangeSpec := { name := "rootsAll", fn := fun _ => fun
  | [d1, d2, d3, d4] => { results := [.lit (.bool true)], args := [d1, d2, d3, d4] }
  | _ => none }
def rootsAllRow : OpenClaim := { program := "ytdjemkgnhohcdaa", sum := "fff0f70e7eecfad4e37d8b392e7b1f85f1603efc5789a263a8ff172cd97c45c7", func := "midden/middenlaw5.RootsAll", spec := "rootsAll", unfollowed := true, recurses := true, apart := false }
def RootsAllSaid : Prop := rootsAllRow.holds Try.pinned (OpenSpec.ofChange rootsAllSpec)

/-- ITS FALSE NEIGHBOUR: 'it returns false'. Refute it at one input. -/
def rootsAllWrong : ChangeSpec := { name := "rootsAll", fn := fun _ => fun
  | [d1, d2, d3, d4] => { results := [.lit (.bool false)], args := [d1, d2, d3, d4] }
  | _ => none }
def RootsAllWrongFalsely : Prop := rootsAllRow.holds Try.pinned (OpenSpec.ofChange rootsAllWrong)

/- THE SECOND FORM. 'bulk': how many values and letters a reading holds, each counted each time it is reached (what is shared counts as often as it is met; a slice's spare places count too). A statement '..UptoSaid' is the law's where the arguments, and the package variables that the reading takes, are together of bulk at most 1048576: NARROWER than '..Said'. Prove '..Said' where nothing that the law and all that it calls make is longer than what came in: it says more and counts as full. Else prove '..UptoSaid'. A law counts once. -/
mutual
def uptoBulk {H : Type} : DataW H → Nat
  | .lit (.string bytes) => bytes.length + 1
  | .lit _ => 1
  | .nil => 1
  | .ptr d => uptoBulk d + 1
  | .slice elems spare => uptoBulkAll elems + uptoBulkAll spare + 1
  | .agg parts => uptoBulkAll parts + 1
  | .iface _ d => uptoBulk d + 1
  | .map entries => uptoBulkEntries entries + 1
  | .held _ => 1
def uptoBulkAll {H : Type} : List (DataW H) → Nat
  | [] => 0
  | d :: r => uptoBulk d + uptoBulkAll r
def uptoBulkEntries {H : Type} : List (Lit × DataW H) → Nat
  | [] => 0
  | x :: r => uptoBulkEntry x + uptoBulkEntries r
def uptoBulkEntry {H : Type} : Lit × DataW H → Nat
  | (.string bytes, d) => bytes.length + uptoBulk d + 1
  | (_, d) => uptoBulk d + 1
 end
def uptoSmall : (H : Type) → List (DataW H) → Bool := fun _ ds => decide (uptoBulkAll ds ≤ 1048576)
def OpenSpec.upto (s : _root_.Go.ChangeSpec) : _root_.Go.OpenSpec := { _root_.Go.OpenSpec.ofChange s with cond := some uptoSmall }

/-- 'middenlaw5.RootsMakes', WHERE WHAT IT READS IS OF BULK AT MOST 1048576: true; the input reads as it did. -/
def rootsMakesUptoRow : OpenClaim := { program := "ytdjemkgnhohcdaa", sum := "fff0f70e7eecfad4e37d8b392e7b1f85f1603efc5789a263a8ff172cd97c45c7", func := "midden/middenlaw5.RootsMakes", spec := "rootsMakes", unfollowed := true, recurses := true, apart := false, narrowed := true }
def RootsMakesUptoSaid : Prop := rootsMakesUptoRow.holds Try.pinned (OpenSpec.upto rootsMakesSpec)

/-- 'middenlaw5.RootsFrames', WHERE WHAT IT READS IS OF BULK AT MOST 1048576: true; the input reads as it did. -/
def rootsFramesUptoRow : OpenClaim := { program := "ytdjemkgnhohcdaa", sum := "fff0f70e7eecfad4e37d8b392e7b1f85f1603efc5789a263a8ff172cd97c45c7", func := "midden/middenlaw5.RootsFrames", spec := "rootsFrames", unfollowed := true, recurses := true, apart := false, narrowed := true }
def RootsFramesUptoSaid : Prop := rootsFramesUptoRow.holds Try.pinned (OpenSpec.upto rootsFramesSpec)

/-- 'middenlaw5.RootsMoves', WHERE WHAT IT READS IS OF BULK AT MOST 1048576: true; the input reads as it did. -/
def rootsMovesUptoRow : OpenClaim := { program := "ytdjemkgnhohcdaa", sum := "fff0f70e7eecfad4e37d8b392e7b1f85f1603efc5789a263a8ff172cd97c45c7", func := "midden/middenlaw5.RootsMoves", spec := "rootsMoves", unfollowed := true, recurses := true, apart := false, narrowed := true }
def RootsMovesUptoSaid : Prop := rootsMovesUptoRow.holds Try.pinned (OpenSpec.upto rootsMovesSpec)

/-- 'middenlaw5.RootsHandles', WHERE WHAT IT READS IS OF BULK AT MOST 1048576: true; the input reads as it did. -/
def rootsHandlesUptoRow : OpenClaim := { program := "ytdjemkgnhohcdaa", sum := "fff0f70e7eecfad4e37d8b392e7b1f85f1603efc5789a263a8ff172cd97c45c7", func := "midden/middenlaw5.RootsHandles", spec := "rootsHandles", unfollowed := true, recurses := true, apart := false, narrowed := true }
def RootsHandlesUptoSaid : Prop := rootsHandlesUptoRow.holds Try.pinned (OpenSpec.upto rootsHandlesSpec)

/-- 'middenlaw5.RootsAll', WHERE WHAT IT READS IS OF BULK AT MOST 1048576: true; the input reads as it did. -/
def rootsAllUptoRow : OpenClaim := { program := "ytdjemkgnhohcdaa", sum := "fff0f70e7eecfad4e37d8b392e7b1f85f1603efc5789a263a8ff172cd97c45c7", func := "midden/middenlaw5.RootsAll", spec := "rootsAll", unfollowed := true, recurses := true, apart := false, narrowed := true }
def RootsAllUptoSaid : Prop := rootsAllUptoRow.holds Try.pinned (OpenSpec.upto rootsAllSpec)

end Rows
end Go.Proofs.Ytdjemkgnhohcdaa
