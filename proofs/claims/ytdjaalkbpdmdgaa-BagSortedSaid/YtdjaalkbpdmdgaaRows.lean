/-
  No cell of these rows narrows 'for every input' (looked for: loops, veiled, ifaces, maps, wideKeys, modest, calm, conditions, laid).
  DERIVED. THE GIVEN ROWS OF THIS SEAT. 4 by the template 'for every input the law returns true; each argument reads behind the call as it read before'; 0 by the template 'total and deterministic' (their statements: YtdjaalkbpdmdgaaTotals.lean).
  GIVEN WITH THE SEED: the statements are not yours to turn. If you find one false, say at which input.
  Laid BY PROGRAM, IN A SANDBOX (cutbox-rows.mjs): the forced cells as the released guide's own fill.sh prints them over the translation 29ec8a59efcfa337… (all of the seat's roots in one cut). By AI agents, Wed Nov 11 2026. No macro, syntax, notation, axiom, sorry.
-/
import Derived.Test.YtdjaalkbpdmdgaaChecked
import GoSem.Claim
import GoSem.ClaimJoined
import GoSem.ClaimMapViews
import Derived.JoinedTies
import Derived.KernelRfl
namespace Go.Proofs.Ytdjaalkbpdmdgaa
/- THE CELL 'sum', in the pinned program and in every row, IS THE sha256 OF THE DUMP (.gsa) THAT YtdjaalkbpdmdgaaProg.lean LOADS. Nothing in Lean hashes anything: it is a label: what it is worth is what the hold of that sum in a sandbox is worth. -/
noncomputable def Try.pinned : Pinned := { name := "ytdjaalkbpdmdgaa", sum := "29ec8a59efcfa33798af5788b3237a38602bc8b109c25bf57e3cc83906ecbd3f", checked := Try.checked }
namespace Rows
def none {H : Type} : Left H := { results := [], args := [] }

/-- 'middenlaw1.BagTurns': WHATEVER THE INPUT: true; the input reads as it did. -/
def bagTurnsSpec : ChangeSpec := { name := "bagTurns", fn := fun _ => fun
  | [d] => { results := [.lit (.bool true)], args := [d] }
  | _ => none }
def bagTurnsRow : OpenClaim := { program := "ytdjaalkbpdmdgaa", sum := "29ec8a59efcfa33798af5788b3237a38602bc8b109c25bf57e3cc83906ecbd3f", func := "midden/middenlaw1.BagTurns", spec := "bagTurns", apart := false }
def BagTurnsSaid : Prop := bagTurnsRow.holds Try.pinned (OpenSpec.ofChange bagTurnsSpec)

/-- ITS FALSE NEIGHBOUR: 'it returns false'. Refute it at one input. -/
def bagTurnsWrong : ChangeSpec := { name := "bagTurns", fn := fun _ => fun
  | [d] => { results := [.lit (.bool false)], args := [d] }
  | _ => none }
def BagTurnsWrongFalsely : Prop := bagTurnsRow.holds Try.pinned (OpenSpec.ofChange bagTurnsWrong)

/-- 'middenlaw1.BagSorted': WHATEVER THE INPUT: true; the input reads as it did. -/
def bagSortedSpec : ChangeSpec := { name := "bagSorted", fn := fun _ => fun
  | [d1, d2, d3] => { results := [.lit (.bool true)], args := [d1, d2, d3] }
  | _ => none }
def bagSortedRow : OpenClaim := { program := "ytdjaalkbpdmdgaa", sum := "29ec8a59efcfa33798af5788b3237a38602bc8b109c25bf57e3cc83906ecbd3f", func := "midden/middenlaw1.BagSorted", spec := "bagSorted", unfollowed := true, recurses := true, apart := false }
def BagSortedSaid : Prop := bagSortedRow.holds Try.pinned (OpenSpec.ofChange bagSortedSpec)

/-- ITS FALSE NEIGHBOUR: 'it returns false'. Refute it at one input. -/
def bagSortedWrong : ChangeSpec := { name := "bagSorted", fn := fun _ => fun
  | [d1, d2, d3] => { results := [.lit (.bool false)], args := [d1, d2, d3] }
  | _ => none }
def BagSortedWrongFalsely : Prop := bagSortedRow.holds Try.pinned (OpenSpec.ofChange bagSortedWrong)

/-- 'middenlaw1.BagWithin': WHATEVER THE INPUT: true; the input reads as it did. -/
def bagWithinSpec : ChangeSpec := { name := "bagWithin", fn := fun _ => fun
  | [d] => { results := [.lit (.bool true)], args := [d] }
  | _ => none }
def bagWithinRow : OpenClaim := { program := "ytdjaalkbpdmdgaa", sum := "29ec8a59efcfa33798af5788b3237a38602bc8b109c25bf57e3cc83906ecbd3f", func := "midden/middenlaw1.BagWithin", spec := "bagWithin", unfollowed := true, recurses := true, apart := false }
def BagWithinSaid : Prop := bagWithinRow.holds Try.pinned (OpenSpec.ofChange bagWithinSpec)

/-- ITS FALSE NEIGHBOUR: 'it returns false'. Refute it at one input. -/
def bagWithinWrong : ChangeSpec := { name := "bagWithin", fn := fun _ => fun
  | [d] => { results := [.lit (.bool false)], args := [d] }
  | _ => none }
def BagWithinWrongFalsely : Prop := bagWithinRow.holds Try.pinned (OpenSpec.ofChange bagWithinWrong)

/-- 'middenlaw1.BagFrozen': WHATEVER THE INPUT: true; the input reads as it did. -/
def bagFrozenSpec : ChangeSpec := { name := "bagFrozen", fn := fun _ => fun
  | [d1, d2] => { results := [.lit (.bool true)], args := [d1, d2] }
  | _ => none }
def bagFrozenRow : OpenClaim := { program := "ytdjaalkbpdmdgaa", sum := "29ec8a59efcfa33798af5788b3237a38602bc8b109c25bf57e3cc83906ecbd3f", func := "midden/middenlaw1.BagFrozen", spec := "bagFrozen", unfollowed := true, recurses := true, apart := false }
def BagFrozenSaid : Prop := bagFrozenRow.holds Try.pinned (OpenSpec.ofChange bagFrozenSpec)

/-- ITS FALSE NEIGHBOUR: 'it returns false'. Refute it at one input. -/
def bagFrozenWrong : ChangeSpec := { name := "bagFrozen", fn := fun _ => fun
  | [d1, d2] => { results := [.lit (.bool false)], args := [d1, d2] }
  | _ => none }
def BagFrozenWrongFalsely : Prop := bagFrozenRow.holds Try.pinned (OpenSpec.ofChange bagFrozenWrong)

/- THE SECOND FORM. 'bulk': how many values and letters a reading holds, each counted each time it is reached (what is shared counts as often as it is met; a slice's spare places count too). A statement '..UptoSaid' is the law's where the arguments, and the package variables that the reading takes, are together of bulk at most 1048576: NARROWER than '..Said'. Prove '..Said' where nothing that the law and all that it calls make is longer than what came in: it says more and counts as full. Else prove '..UptoSaid'. A law counts once. -/
mutual
def uptoBulk {H : Type} : DataW H → Nat
  | .lit (.string bytes) => bytes.length + 1
  | .lit _ => 1
  | .nil => 1
  | .ptr d => uptoBulk d + 1
  | .slice elems spare => uptoBulkAll elems + uptoBulkAll spare + 1
  | .agg parts => uptoBulkAll parts + 1
  | .iface _ d => uptoBulk d + 1
  | .map entries => uptoBulkEntries entries + 1
  | .held _ => 1
def uptoBulkAll {H : Type} : List (DataW H) → Nat
  | [] => 0
  | d :: r => uptoBulk d + uptoBulkAll r
def uptoBulkEntries {H : Type} : List (Lit × DataW H) → Nat
  | [] => 0
  | x :: r => uptoBulkEntry x + uptoBulkEntries r
def uptoBulkEntry {H : Type} : Lit × DataW H → Nat
  | (.string bytes, d) => bytes.length + uptoBulk d + 1
  | (_, d) => uptoBulk d + 1
 end
def uptoSmall : (H : Type) → List (DataW H) → Bool := fun _ ds => decide (uptoBulkAll ds ≤ 1048576)
def OpenSpec.upto (s : _root_.Go.ChangeSpec) : _root_.Go.OpenSpec := { _root_.Go.OpenSpec.ofChange s with cond := some uptoSmall }

/-- 'middenlaw1.BagTurns', WHERE WHAT IT READS IS OF BULK AT MOST 1048576: true; the input reads as it did. -/
def bagTurnsUptoRow : OpenClaim := { program := "ytdjaalkbpdmdgaa", sum := "29ec8a59efcfa33798af5788b3237a38602bc8b109c25bf57e3cc83906ecbd3f", func := "midden/middenlaw1.BagTurns", spec := "bagTurns", apart := false, narrowed := true }
def BagTurnsUptoSaid : Prop := bagTurnsUptoRow.holds Try.pinned (OpenSpec.upto bagTurnsSpec)

/-- 'middenlaw1.BagSorted', WHERE WHAT IT READS IS OF BULK AT MOST 1048576: true; the input reads as it did. -/
def bagSortedUptoRow : OpenClaim := { program := "ytdjaalkbpdmdgaa", sum := "29ec8a59efcfa33798af5788b3237a38602bc8b109c25bf57e3cc83906ecbd3f", func := "midden/middenlaw1.BagSorted", spec := "bagSorted", unfollowed := true, recurses := true, apart := false, narrowed := true }
def BagSortedUptoSaid : Prop := bagSortedUptoRow.holds Try.pinned (OpenSpec.upto bagSortedSpec)

/-- 'middenlaw1.BagWithin', WHERE WHAT IT READS IS OF BULK AT MOST 1048576: true; the input reads as it did. -/
def bagWithinUptoRow : OpenClaim := { program := "ytdjaalkbpdmdgaa", sum := "29ec8a59efcfa33798af5788b3237a38602bc8b109c25bf57e3cc83906ecbd3f", func := "midden/middenlaw1.BagWithin", spec := "bagWithin", unfollowed := true, recurses := true, apart := false, narrowed := true }
def BagWithinUptoSaid : Prop := bagWithinUptoRow.holds Try.pinned (OpenSpec.upto bagWithinSpec)

/-- 'middenlaw1.BagFrozen', WHERE WHAT IT READS IS OF BULK AT MOST 1048576: true; the input reads as it did. -/
def bagFrozenUptoRow : OpenClaim := { program := "ytdjaalkbpdmdgaa", sum := "29ec8a59efcfa33798af5788b3237a38602bc8b109c25bf57e3cc83906ecbd3f", func := "midden/middenlaw1.BagFrozen", spec := "bagFrozen", unfollowed := true, recurses := true, apart := false, narrowed := true }
def BagFrozenUptoSaid : Prop := bagFrozenUptoRow.holds Try.pinned (OpenSpec.upto bagFrozenSpec)

end Rows
end Go.Proofs.Ytdjaalkbpdmdgaa
