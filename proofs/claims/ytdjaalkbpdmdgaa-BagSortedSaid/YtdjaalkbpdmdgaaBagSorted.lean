/-
  Bag: the row of BagSorted: a table gone through rises, has each key that was set and not dropped once, with the value laid there last; Near tells the greatest key not above what is asked.
-/
import Derived.Test.YtdjaalkbpdmdgaaLaw
import Derived.Test.YtdjaalkbpdmdgaaBgSo4
import Derived.Test.YtdjaalkbpdmdgaaBgOpen
namespace Go.Proofs.Ytdjaalkbpdmdgaa.bagSorted
open Go.ChangeShapes Go.WideShapes Go.ChangeAt Go.RowKit
set_option linter.unusedVariables false

theorem own : ownKnob Try.prog.godebug = none := by kernel_rfl
theorem laid : laidOutB Try.prog = true := by kernel_rfl
theorem pars : Try.f4.params.toList.all (fun t => Try.prog.readableRec t && decide (t < Try.prog.types.size)) = true := by kernel_rfl
theorem pars' : ∀ t ∈ Try.f4.params.toList, Try.prog.readableRec t = true ∧ t < Try.prog.types.size := fun t ht => by
  have h := List.all_eq_true.1 pars t ht
  simpa using h

theorem contract (H : Type) (enc : TypeId × Value → H) (W : World) (base : Nat) (args : Array Value) (ds : List (DataW H)) (p : List MemPlace)
    (hval : ∀ (j : Nat) t v, Try.f4.params[j]? = some t → args[j]? = some v → Value.okWide Try.prog W .any base t v)
    (hA : DataW.TrodAll enc Try.prog W 0 (fun _ => true) true Try.f4.params.toList args.toList ds p) (hlt : ∀ x ∈ p, x.block < W.heap.size)
    (hsz : (DataW.weightsEach Try.prog Try.f4.params.toList ds).all (· ≤ reachBytes) = true) :
    Calls Try.prog 4 args W fun e W' => e = .returned (.bool true) ∧ Below W.heap.size W W' := by
  rw [Try.params4] at hA hval
  obtain ⟨v0, v1, v2, d0, d1, d2, p0, p1, p2, rfl, rfl, rfl, h0, h1, h2⟩ := trodAll_three hA
  obtain ⟨A1, n1, c1, l1, rfl, e1, r1, b1, k1, k1'⟩ := open_rd (hval 0 22 v0 rfl rfl) h0
  obtain ⟨A2, n2, c2, l2, rfl, e2, r2, b2, k2, k2'⟩ := open_rd (hval 1 22 v1 rfl rfl) h1
  obtain ⟨a2, rfl, rfl, rfl, w2⟩ := open_int Try.underlying3 (hval 2 3 v2 rfl rfl) h2
  exact (sorted_any A1 A2 n1 c1 n2 c2 l1 l2 a2 W e1 k1 k1' r1 e2 k2 k2' r2).mono fun e W' ⟨he, hf⟩ => ⟨he, hf.below (Nat.le_refl _) (by simp)⟩

set_option maxRecDepth 100000 in
theorem lifted (os : Os) (started : os.Started) (H : Type) (enc : TypeId × Value → H) :
    ReturnsInHanded {} Try.checked os 4 .any (Rows.bagSortedSpec.pre6 enc Try.prog Try.f4 Rows.bagSortedRow.domain false) (Rows.bagSortedSpec.post enc Try.prog Try.f4 false true false false) :=
  law_lifted (C := Try.checked) (B := 4) started own (by kernel_rfl) Try.func4
    (ChangeSpec.witness6 (enc := enc) (C := Try.checked) false ⟨#[], #[.slice none 0 0, .slice none 0 0, .int .i64 0], []⟩ 8 (by kernel_rfl) (by kernel_rfl) (by kernel_rfl) (by kernel_rfl))
    rfl (fun ds h => by match ds, h with | [_, _, _], _ => rfl) rfl Try.underlying4 laid pars' (contract H enc)

theorem over : Rows.bagSortedRow.holds Try.pinned (OpenSpec.ofChange Rows.bagSortedSpec) :=
  OpenClaim.holds_of_wide 4 Try.f4 rfl rfl rfl rfl rfl rfl rfl ⟨rfl, rfl, rfl, rfl, rfl⟩ rfl rfl rfl rfl rfl (by kernel_rfl) Try.func4 (by kernel_rfl)
    (of_decide_eq_true (by kernel_rfl)) (by unfold Func.isWrapper; first | (rw [if_pos (by decide +kernel)]; kernel_rfl) | (rw [if_neg (by decide +kernel)]; exact ⟨rfl, rfl⟩))
    (fun os started H enc _ => lifted os started H enc)

/-- The statement. -/
theorem proved : Rows.BagSortedSaid :=
  over
#print axioms proved
end Go.Proofs.Ytdjaalkbpdmdgaa.bagSorted
