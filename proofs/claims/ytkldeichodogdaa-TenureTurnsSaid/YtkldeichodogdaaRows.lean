/-
  No cell of these rows narrows 'for every input' (looked for: loops, veiled, ifaces, maps, wideKeys, modest, calm, conditions, laid).
  DERIVED. THE GIVEN ROWS OF THIS SEAT. 5 by the template 'for every input the law returns true; each argument reads behind the call as it read before'; 0 by the template 'total and deterministic' (their statements: YtkldeichodogdaaTotals.lean).
  GIVEN WITH THE SEED: the statements are not yours to turn. If you find one false, say at which input.
  Laid BY PROGRAM, IN A SANDBOX (cutbox-rows.mjs): the forced cells as the released guide's own fill.sh prints them over the translation 83c094b3b19837b3… (all of the seat's roots in one cut). By AI agents, Wed Nov 11 2026. No macro, syntax, notation, axiom, sorry.
-/
import Derived.Test.YtkldeichodogdaaChecked
import GoSem.Claim
import GoSem.ClaimJoined
import GoSem.ClaimMapViews
import Derived.JoinedTies
import Derived.KernelRfl
namespace Go.Proofs.Ytkldeichodogdaa
/- THE CELL 'sum', in the pinned program and in every row, IS THE sha256 OF THE DUMP (.gsa) THAT YtkldeichodogdaaProg.lean LOADS. Nothing in Lean hashes anything: it is a label: what it is worth is what the hold of that sum in a sandbox is worth. -/
noncomputable def Try.pinned : Pinned := { name := "ytkldeichodogdaa", sum := "83c094b3b19837b334fc29446b91bb1e546c137c03f40a78493c25038fa19acc", checked := Try.checked }
namespace Rows
def none {H : Type} : Left H := { results := [], args := [] }

/-- 'middenlaw7.TenureNews': WHATEVER THE INPUT: true; the input reads as it did. -/
def tenureNewsSpec : ChangeSpec := { name := "tenureNews", fn := fun _ => fun
  | [d1, d2, d3] => { results := [.lit (.bool true)], args := [d1, d2, d3] }
  | _ => none }
def tenureNewsRow : OpenClaim := { program := "ytkldeichodogdaa", sum := "83c094b3b19837b334fc29446b91bb1e546c137c03f40a78493c25038fa19acc", func := "midden/middenlaw7.TenureNews", spec := "tenureNews", apart := false }
def TenureNewsSaid : Prop := tenureNewsRow.holds Try.pinned (OpenSpec.ofChange tenureNewsSpec)

/-- ITS FALSE NEIGHBOUR: 'it returns false'. Refute it at one input. -/
def tenureNewsWrong : ChangeSpec := { name := "tenureNews", fn := fun _ => fun
  | [d1, d2, d3] => { results := [.lit (.bool false)], args := [d1, d2, d3] }
  | _ => none }
def TenureNewsWrongFalsely : Prop := tenureNewsRow.holds Try.pinned (OpenSpec.ofChange tenureNewsWrong)

/-- 'middenlaw7.TenureTurns': WHATEVER THE INPUT: true; the input reads as it did. -/
def tenureTurnsSpec : ChangeSpec := { name := "tenureTurns", fn := fun _ => fun
  | [d1, d2, d3, d4] => { results := [.lit (.bool true)], args := [d1, d2, d3, d4] }
  | _ => none }
def tenureTurnsRow : OpenClaim := { program := "ytkldeichodogdaa", sum := "83c094b3b19837b334fc29446b91bb1e546c137c03f40a78493c25038fa19acc", func := "midden/middenlaw7.TenureTurns", spec := "tenureTurns", apart := false }
def TenureTurnsSaid : Prop := tenureTurnsRow.holds Try.pinned (OpenSpec.ofChange tenureTurnsSpec)

/-- ITS FALSE NEIGHBOUR: 'it returns false'. Refute it at one input. -/
def tenureTurnsWrong : ChangeSpec := { name := "tenureTurns", fn := fun _ => fun
  | [d1, d2, d3, d4] => { results := [.lit (.bool false)], args := [d1, d2, d3, d4] }
  | _ => none }
def TenureTurnsWrongFalsely : Prop := tenureTurnsRow.holds Try.pinned (OpenSpec.ofChange tenureTurnsWrong)

/-- 'middenlaw7.TenureHolds': WHATEVER THE INPUT: true; the input reads as it did. -/
def tenureHoldsSpec : ChangeSpec := { name := "tenureHolds", fn := fun _ => fun
  | [d1, d2, d3, d4] => { results := [.lit (.bool true)], args := [d1, d2, d3, d4] }
  | _ => none }
def tenureHoldsRow : OpenClaim := { program := "ytkldeichodogdaa", sum := "83c094b3b19837b334fc29446b91bb1e546c137c03f40a78493c25038fa19acc", func := "midden/middenlaw7.TenureHolds", spec := "tenureHolds", apart := false }
def TenureHoldsSaid : Prop := tenureHoldsRow.holds Try.pinned (OpenSpec.ofChange tenureHoldsSpec)

/-- ITS FALSE NEIGHBOUR: 'it returns false'. Refute it at one input. -/
def tenureHoldsWrong : ChangeSpec := { name := "tenureHolds", fn := fun _ => fun
  | [d1, d2, d3, d4] => { results := [.lit (.bool false)], args := [d1, d2, d3, d4] }
  | _ => none }
def TenureHoldsWrongFalsely : Prop := tenureHoldsRow.holds Try.pinned (OpenSpec.ofChange tenureHoldsWrong)

/-- 'middenlaw7.TenureFalls': WHATEVER THE INPUT: true; the input reads as it did. -/
def tenureFallsSpec : ChangeSpec := { name := "tenureFalls", fn := fun _ => fun
  | [d1, d2, d3, d4, d5, d6] => { results := [.lit (.bool true)], args := [d1, d2, d3, d4, d5, d6] }
  | _ => none }
def tenureFallsRow : OpenClaim := { program := "ytkldeichodogdaa", sum := "83c094b3b19837b334fc29446b91bb1e546c137c03f40a78493c25038fa19acc", func := "midden/middenlaw7.TenureFalls", spec := "tenureFalls", apart := false }
def TenureFallsSaid : Prop := tenureFallsRow.holds Try.pinned (OpenSpec.ofChange tenureFallsSpec)

/-- ITS FALSE NEIGHBOUR: 'it returns false'. Refute it at one input. -/
def tenureFallsWrong : ChangeSpec := { name := "tenureFalls", fn := fun _ => fun
  | [d1, d2, d3, d4, d5, d6] => { results := [.lit (.bool false)], args := [d1, d2, d3, d4, d5, d6] }
  | _ => none }
def TenureFallsWrongFalsely : Prop := tenureFallsRow.holds Try.pinned (OpenSpec.ofChange tenureFallsWrong)

/-- 'middenlaw7.TenureTwo': WHATEVER THE INPUT: true; the input reads as it did. -/
def tenureTwoSpec : ChangeSpec := { name := "tenureTwo", fn := fun _ => fun
  | [d1, d2, d3, d4] => { results := [.lit (.bool true)], args := [d1, d2, d3, d4] }
  | _ => none }
def tenureTwoRow : OpenClaim := { program := "ytkldeichodogdaa", sum := "83c094b3b19837b334fc29446b91bb1e546c137c03f40a78493c25038fa19acc", func := "midden/middenlaw7.TenureTwo", spec := "tenureTwo", apart := false }
def TenureTwoSaid : Prop := tenureTwoRow.holds Try.pinned (OpenSpec.ofChange tenureTwoSpec)

/-- ITS FALSE NEIGHBOUR: 'it returns false'. Refute it at one input. -/
def tenureTwoWrong : ChangeSpec := { name := "tenureTwo", fn := fun _ => fun
  | [d1, d2, d3, d4] => { results := [.lit (.bool false)], args := [d1, d2, d3, d4] }
  | _ => none }
def TenureTwoWrongFalsely : Prop := tenureTwoRow.holds Try.pinned (OpenSpec.ofChange tenureTwoWrong)

/- THE SECOND FORM. 'bulk': how many values and letters a reading holds, each counted each time it is reached (what is shared counts as often as it is met; a slice's spare places count too). A statement '..UptoSaid' is the law's where the arguments, and the package variables that the reading takes, are together of bulk at most 1048576: NARROWER than '..Said'. Prove '..Said' where nothing that the law and all that it calls make is longer than what came in: it says more and counts as full. Else prove '..UptoSaid'. A law counts once. -/
mutual
def uptoBulk {H : Type} : DataW H → Nat
  | .lit (.string bytes) => bytes.length + 1
  | .lit _ => 1
  | .nil => 1
  | .ptr d => uptoBulk d + 1
  | .slice elems spare => uptoBulkAll elems + uptoBulkAll spare + 1
  | .agg parts => uptoBulkAll parts + 1
  | .iface _ d => uptoBulk d + 1
  | .map entries => uptoBulkEntries entries + 1
  | .held _ => 1
def uptoBulkAll {H : Type} : List (DataW H) → Nat
  | [] => 0
  | d :: r => uptoBulk d + uptoBulkAll r
def uptoBulkEntries {H : Type} : List (Lit × DataW H) → Nat
  | [] => 0
  | x :: r => uptoBulkEntry x + uptoBulkEntries r
def uptoBulkEntry {H : Type} : Lit × DataW H → Nat
  | (.string bytes, d) => bytes.length + uptoBulk d + 1
  | (_, d) => uptoBulk d + 1
 end
def uptoSmall : (H : Type) → List (DataW H) → Bool := fun _ ds => decide (uptoBulkAll ds ≤ 1048576)
def OpenSpec.upto (s : _root_.Go.ChangeSpec) : _root_.Go.OpenSpec := { _root_.Go.OpenSpec.ofChange s with cond := some uptoSmall }

/-- 'middenlaw7.TenureNews', WHERE WHAT IT READS IS OF BULK AT MOST 1048576: true; the input reads as it did. -/
def tenureNewsUptoRow : OpenClaim := { program := "ytkldeichodogdaa", sum := "83c094b3b19837b334fc29446b91bb1e546c137c03f40a78493c25038fa19acc", func := "midden/middenlaw7.TenureNews", spec := "tenureNews", apart := false, narrowed := true }
def TenureNewsUptoSaid : Prop := tenureNewsUptoRow.holds Try.pinned (OpenSpec.upto tenureNewsSpec)

/-- 'middenlaw7.TenureTurns', WHERE WHAT IT READS IS OF BULK AT MOST 1048576: true; the input reads as it did. -/
def tenureTurnsUptoRow : OpenClaim := { program := "ytkldeichodogdaa", sum := "83c094b3b19837b334fc29446b91bb1e546c137c03f40a78493c25038fa19acc", func := "midden/middenlaw7.TenureTurns", spec := "tenureTurns", apart := false, narrowed := true }
def TenureTurnsUptoSaid : Prop := tenureTurnsUptoRow.holds Try.pinned (OpenSpec.upto tenureTurnsSpec)

/-- 'middenlaw7.TenureHolds', WHERE WHAT IT READS IS OF BULK AT MOST 1048576: true; the input reads as it did. -/
def tenureHoldsUptoRow : OpenClaim := { program := "ytkldeichodogdaa", sum := "83c094b3b19837b334fc29446b91bb1e546c137c03f40a78493c25038fa19acc", func := "midden/middenlaw7.TenureHolds", spec := "tenureHolds", apart := false, narrowed := true }
def TenureHoldsUptoSaid : Prop := tenureHoldsUptoRow.holds Try.pinned (OpenSpec.upto tenureHoldsSpec)

/-- 'middenlaw7.TenureFalls', WHERE WHAT IT READS IS OF BULK AT MOST 1048576: true; the input reads as it did. -/
def tenureFallsUptoRow : OpenClaim := { program := "ytkldeichodogdaa", sum := "83c094b3b19837b334fc29446b91bb1e546c137c03f40a78493c25038fa19acc", func := "midden/middenlaw7.TenureFalls", spec := "tenureFalls", apart := false, narrowed := true }
def TenureFallsUptoSaid : Prop := tenureFallsUptoRow.holds Try.pinned (OpenSpec.upto tenureFallsSpec)

/-- 'middenlaw7.TenureTwo', WHERE WHAT IT READS IS OF BULK AT MOST 1048576: true; the input reads as it did. -/
def tenureTwoUptoRow : OpenClaim := { program := "ytkldeichodogdaa", sum := "83c094b3b19837b334fc29446b91bb1e546c137c03f40a78493c25038fa19acc", func := "midden/middenlaw7.TenureTwo", spec := "tenureTwo", apart := false, narrowed := true }
def TenureTwoUptoSaid : Prop := tenureTwoUptoRow.holds Try.pinned (OpenSpec.upto tenureTwoSpec)

end Rows
end Go.Proofs.Ytkldeichodogdaa
