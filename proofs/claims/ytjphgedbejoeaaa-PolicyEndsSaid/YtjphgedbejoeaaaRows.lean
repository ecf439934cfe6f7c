/-
  No cell of these rows narrows 'for every input' (looked for: loops, veiled, ifaces, maps, wideKeys, modest, calm, conditions, laid).
  DERIVED. THE GIVEN ROWS OF THIS SEAT. 4 by the template 'for every input the law returns true; each argument reads behind the call as it read before'; 0 by the template 'total and deterministic' (their statements: YtjphgedbejoeaaaTotals.lean).
  GIVEN WITH THE SEED: the statements are not yours to turn. If you find one false, say at which input.
  Laid BY PROGRAM, IN A SANDBOX (cutbox-rows.mjs): the forced cells as the released guide's own fill.sh prints them over the translation 757ae47895898a98… (all of the seat's roots in one cut). By AI agents, Wed Nov 11 2026. No macro, syntax, notation, axiom, sorry.
-/
import Derived.Test.YtjphgedbejoeaaaChecked
import GoSem.Claim
import GoSem.ClaimJoined
import GoSem.ClaimMapViews
import Derived.JoinedTies
import Derived.KernelRfl
namespace Go.Proofs.Ytjphgedbejoeaaa
/- THE CELL 'sum', in the pinned program and in every row, IS THE sha256 OF THE DUMP (.gsa) THAT YtjphgedbejoeaaaProg.lean LOADS. Nothing in Lean hashes anything: it is a label: what it is worth is what the hold of that sum in a sandbox is worth. -/
noncomputable def Try.pinned : Pinned := { name := "ytjphgedbejoeaaa", sum := "757ae47895898a986f2b158747f42e3d57f38af49b22098895c8219085b1f32d", checked := Try.checked }
namespace Rows
def none {H : Type} : Left H := { results := [], args := [] }

/-- 'middenlaw12.PolicyLimits': WHATEVER THE INPUT: true; the input reads as it did. -/
def policyLimitsSpec : ChangeSpec := { name := "policyLimits", fn := fun _ => fun
  | [d1, d2, d3] => { results := [.lit (.bool true)], args := [d1, d2, d3] }
  | _ => none }
def policyLimitsRow : OpenClaim := { program := "ytjphgedbejoeaaa", sum := "757ae47895898a986f2b158747f42e3d57f38af49b22098895c8219085b1f32d", func := "midden/middenlaw12.PolicyLimits", spec := "policyLimits", unfollowed := true, recurses := true, apart := false }
def PolicyLimitsSaid : Prop := policyLimitsRow.holds Try.pinned (OpenSpec.ofChange policyLimitsSpec)

/-- ITS FALSE NEIGHBOUR: 'it returns false'. Refute it at one input. -/
def policyLimitsWrong : ChangeSpec := { name := "policyLimits", fn := fun _ => fun
  | [d1, d2, d3] => { results := [.lit (.bool false)], args := [d1, d2, d3] }
  | _ => none }
def PolicyLimitsWrongFalsely : Prop := policyLimitsRow.holds Try.pinned (OpenSpec.ofChange policyLimitsWrong)

/-- 'middenlaw12.PolicyTwo': WHATEVER THE INPUT: true; the input reads as it did. -/
def policyTwoSpec : ChangeSpec := { name := "policyTwo", fn := fun _ => fun
  | [d1, d2] => { results := [.lit (.bool true)], args := [d1, d2] }
  | _ => none }
def policyTwoRow : OpenClaim := { program := "ytjphgedbejoeaaa", sum := "757ae47895898a986f2b158747f42e3d57f38af49b22098895c8219085b1f32d", func := "midden/middenlaw12.PolicyTwo", spec := "policyTwo", unfollowed := true, recurses := true, apart := false }
def PolicyTwoSaid : Prop := policyTwoRow.holds Try.pinned (OpenSpec.ofChange policyTwoSpec)

/-- ITS FALSE NEIGHBOUR: 'it returns false'. Refute it at one input. -/
def policyTwoWrong : ChangeSpec := { name := "policyTwo", fn := fun _ => fun
  | [d1, d2] => { results := [.lit (.bool false)], args := [d1, d2] }
  | _ => none }
def PolicyTwoWrongFalsely : Prop := policyTwoRow.holds Try.pinned (OpenSpec.ofChange policyTwoWrong)

/-- 'middenlaw12.PolicyEnds': WHATEVER THE INPUT: true; the input reads as it did. -/
def policyEndsSpec : ChangeSpec := { name := "policyEnds", fn := fun _ => fun
  | [d] => { results := [.lit (.bool true)], args := [d] }
  | _ => none }
def policyEndsRow : OpenClaim := { program := "ytjphgedbejoeaaa", sum := "757ae47895898a986f2b158747f42e3d57f38af49b22098895c8219085b1f32d", func := "midden/middenlaw12.PolicyEnds", spec := "policyEnds", unfollowed := true, recurses := true, apart := false }
def PolicyEndsSaid : Prop := policyEndsRow.holds Try.pinned (OpenSpec.ofChange policyEndsSpec)

/-- ITS FALSE NEIGHBOUR: 'it returns false'. Refute it at one input. -/
def policyEndsWrong : ChangeSpec := { name := "policyEnds", fn := fun _ => fun
  | [d] => { results := [.lit (.bool false)], args := [d] }
  | _ => none }
def PolicyEndsWrongFalsely : Prop := policyEndsRow.holds Try.pinned (OpenSpec.ofChange policyEndsWrong)

/-- 'middenlaw12.PolicyRoom': WHATEVER THE INPUT: true; the input reads as it did. -/
def policyRoomSpec : ChangeSpec := { name := "policyRoom", fn := fun _ => fun
  | [d] => { results := [.lit (.bool true)], args := [d] }
  | _ => none }
def policyRoomRow : OpenClaim := { program := "ytjphgedbejoeaaa", sum := "757ae47895898a986f2b158747f42e3d57f38af49b22098895c8219085b1f32d", func := "midden/middenlaw12.PolicyRoom", spec := "policyRoom", unfollowed := true, recurses := true, apart := false }
def PolicyRoomSaid : Prop := policyRoomRow.holds Try.pinned (OpenSpec.ofChange policyRoomSpec)

/-- ITS FALSE NEIGHBOUR: 'it returns false'. Refute it at one input. -/
def policyRoomWrong : ChangeSpec := { name := "policyRoom", fn := fun _ => fun
  | [d] => { results := [.lit (.bool false)], args := [d] }
  | _ => none }
def PolicyRoomWrongFalsely : Prop := policyRoomRow.holds Try.pinned (OpenSpec.ofChange policyRoomWrong)

/- THE SECOND FORM. 'bulk': how many values and letters a reading holds, each counted each time it is reached (what is shared counts as often as it is met; a slice's spare places count too). A statement '..UptoSaid' is the law's where the arguments, and the package variables that the reading takes, are together of bulk at most 1048576: NARROWER than '..Said'. Prove '..Said' where nothing that the law and all that it calls make is longer than what came in: it says more and counts as full. Else prove '..UptoSaid'. A law counts once. -/
mutual
def uptoBulk {H : Type} : DataW H → Nat
  | .lit (.string bytes) => bytes.length + 1
  | .lit _ => 1
  | .nil => 1
  | .ptr d => uptoBulk d + 1
  | .slice elems spare => uptoBulkAll elems + uptoBulkAll spare + 1
  | .agg parts => uptoBulkAll parts + 1
  | .iface _ d => uptoBulk d + 1
  | .map entries => uptoBulkEntries entries + 1
  | .held _ => 1
def uptoBulkAll {H : Type} : List (DataW H) → Nat
  | [] => 0
  | d :: r => uptoBulk d + uptoBulkAll r
def uptoBulkEntries {H : Type} : List (Lit × DataW H) → Nat
  | [] => 0
  | x :: r => uptoBulkEntry x + uptoBulkEntries r
def uptoBulkEntry {H : Type} : Lit × DataW H → Nat
  | (.string bytes, d) => bytes.length + uptoBulk d + 1
  | (_, d) => uptoBulk d + 1
 end
def uptoSmall : (H : Type) → List (DataW H) → Bool := fun _ ds => decide (uptoBulkAll ds ≤ 1048576)
def OpenSpec.upto (s : _root_.Go.ChangeSpec) : _root_.Go.OpenSpec := { _root_.Go.OpenSpec.ofChange s with cond := some uptoSmall }

/-- 'middenlaw12.PolicyLimits', WHERE WHAT IT READS IS OF BULK AT MOST 1048576: true; the input reads as it did. -/
def policyLimitsUptoRow : OpenClaim := { program := "ytjphgedbejoeaaa", sum := "757ae47895898a986f2b158747f42e3d57f38af49b22098895c8219085b1f32d", func := "midden/middenlaw12.PolicyLimits", spec := "policyLimits", unfollowed := true, recurses := true, apart := false, narrowed := true }
def PolicyLimitsUptoSaid : Prop := policyLimitsUptoRow.holds Try.pinned (OpenSpec.upto policyLimitsSpec)

/-- 'middenlaw12.PolicyTwo', WHERE WHAT IT READS IS OF BULK AT MOST 1048576: true; the input reads as it did. -/
def policyTwoUptoRow : OpenClaim := { program := "ytjphgedbejoeaaa", sum := "757ae47895898a986f2b158747f42e3d57f38af49b22098895c8219085b1f32d", func := "midden/middenlaw12.PolicyTwo", spec := "policyTwo", unfollowed := true, recurses := true, apart := false, narrowed := true }
def PolicyTwoUptoSaid : Prop := policyTwoUptoRow.holds Try.pinned (OpenSpec.upto policyTwoSpec)

/-- 'middenlaw12.PolicyEnds', WHERE WHAT IT READS IS OF BULK AT MOST 1048576: true; the input reads as it did. -/
def policyEndsUptoRow : OpenClaim := { program := "ytjphgedbejoeaaa", sum := "757ae47895898a986f2b158747f42e3d57f38af49b22098895c8219085b1f32d", func := "midden/middenlaw12.PolicyEnds", spec := "policyEnds", unfollowed := true, recurses := true, apart := false, narrowed := true }
def PolicyEndsUptoSaid : Prop := policyEndsUptoRow.holds Try.pinned (OpenSpec.upto policyEndsSpec)

/-- 'middenlaw12.PolicyRoom', WHERE WHAT IT READS IS OF BULK AT MOST 1048576: true; the input reads as it did. -/
def policyRoomUptoRow : OpenClaim := { program := "ytjphgedbejoeaaa", sum := "757ae47895898a986f2b158747f42e3d57f38af49b22098895c8219085b1f32d", func := "midden/middenlaw12.PolicyRoom", spec := "policyRoom", unfollowed := true, recurses := true, apart := false, narrowed := true }
def PolicyRoomUptoSaid : Prop := policyRoomUptoRow.holds Try.pinned (OpenSpec.upto policyRoomSpec)

end Rows
end Go.Proofs.Ytjphgedbejoeaaa
