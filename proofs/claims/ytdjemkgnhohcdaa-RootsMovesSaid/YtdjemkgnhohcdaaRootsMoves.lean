/-
  Roots: the row of RootsMoves: what moves is asked once for each root that is not null, in the order of All.
-/
import Derived.Test.YtdjemkgnhohcdaaLaw
import Derived.Test.YtdjemkgnhohcdaaRtM5
import Derived.Test.YtdjemkgnhohcdaaRtOpen
namespace Go.Proofs.Ytdjemkgnhohcdaa.rootsMoves
open Go.ChangeShapes Go.WideShapes Go.ChangeAt Go.RowKit
set_option linter.unusedVariables false

theorem own : ownKnob Try.prog.godebug = none := by kernel_rfl
theorem laid : laidOutB Try.prog = true := by kernel_rfl
theorem pars : Try.f5.params.toList.all (fun t => Try.prog.readableRec t && decide (t < Try.prog.types.size)) = true := by kernel_rfl
theorem pars' : ∀ t ∈ Try.f5.params.toList, Try.prog.readableRec t = true ∧ t < Try.prog.types.size := fun t ht => by
  have h := List.all_eq_true.1 pars t ht
  simpa using h

theorem contract (H : Type) (enc : TypeId × Value → H) (W : World) (base : Nat) (args : Array Value) (ds : List (DataW H)) (p : List MemPlace)
    (hval : ∀ (j : Nat) t v, Try.f5.params[j]? = some t → args[j]? = some v → Value.okWide Try.prog W .any base t v)
    (hA : DataW.TrodAll enc Try.prog W 0 (fun _ => true) true Try.f5.params.toList args.toList ds p) (hlt : ∀ x ∈ p, x.block < W.heap.size)
    (hsz : (DataW.weightsEach Try.prog Try.f5.params.toList ds).all (· ≤ reachBytes) = true) :
    Calls Try.prog 5 args W fun e W' => e = .returned (.bool true) ∧ Below W.heap.size W W' := by
  rw [Try.params5] at hA hval hsz
  obtain ⟨v0, v1, v2, v3, v4, d0, d1, d2, d3, d4, p0, p1, p2, p3, p4, rfl, rfl, h0, h1, h2, h3, h4⟩ := trodAll_five hA
  obtain ⟨A3, n3, c3, l3, rfl, e3, r3⟩ := open_ops (hval 3 36 v3 rfl rfl) h3 (fun elems spare hd => sized_slice hsz (j := 3) (t := 36) (elems := elems) (spare := spare) rfl (by rw [← hd]; rfl) Try.underlying36)
  obtain ⟨a0, rfl, rfl, rfl, w0⟩ := open_int Try.underlying3 (hval 0 3 v0 rfl rfl) h0
  obtain ⟨a1, rfl, rfl, rfl, w1⟩ := open_int Try.underlying3 (hval 1 3 v1 rfl rfl) h1
  obtain ⟨a2, rfl, rfl, rfl, w2⟩ := open_int Try.underlying3 (hval 2 3 v2 rfl rfl) h2
  obtain ⟨A4, n4, c4, l4, rfl, e4, r4, b4, k4, k4'⟩ := open_rd (hval 4 31 v4 rfl rfl) h4
  exact (moves_st a0 a1 a2 A3 A4 n3 c3 n4 c4 l3 l4 W (inI_of w0) (inI_of w1) (inI_of w2) e3 r3 e4 r4).mono fun e W' ⟨he, hf⟩ => ⟨he, hf.below (Nat.le_refl _) (by simp)⟩

set_option maxRecDepth 100000 in
theorem lifted (os : Os) (started : os.Started) (H : Type) (enc : TypeId × Value → H) :
    ReturnsInHanded {} Try.checked os 5 .any (Rows.rootsMovesSpec.pre6 enc Try.prog Try.f5 Rows.rootsMovesRow.domain false) (Rows.rootsMovesSpec.post enc Try.prog Try.f5 false true false false) :=
  law_lifted (C := Try.checked) (B := 4) started own (by kernel_rfl) Try.func5
    (ChangeSpec.witness6 (enc := enc) (C := Try.checked) false ⟨#[], #[.int .i64 0, .int .i64 0, .int .i64 0, .slice none 0 0, .slice none 0 0], []⟩ 8 (by kernel_rfl) (by kernel_rfl) (by kernel_rfl) (by kernel_rfl))
    rfl (fun ds h => by match ds, h with | [_, _, _, _, _], _ => rfl) rfl Try.underlying4 laid pars' (contract H enc)

theorem over : Rows.rootsMovesRow.holds Try.pinned (OpenSpec.ofChange Rows.rootsMovesSpec) :=
  OpenClaim.holds_of_wide 5 Try.f5 rfl rfl rfl rfl rfl rfl rfl ⟨rfl, rfl, rfl, rfl, rfl⟩ rfl rfl rfl rfl rfl (by kernel_rfl) Try.func5 (by kernel_rfl)
    (of_decide_eq_true (by kernel_rfl)) (by unfold Func.isWrapper; first | (rw [if_pos (by decide +kernel)]; kernel_rfl) | (rw [if_neg (by decide +kernel)]; exact ⟨rfl, rfl⟩))
    (fun os started H enc _ => lifted os started H enc)

/-- The statement. -/
theorem proved : Rows.RootsMovesSaid :=
  over
#print axioms proved
end Go.Proofs.Ytdjemkgnhohcdaa.rootsMoves
