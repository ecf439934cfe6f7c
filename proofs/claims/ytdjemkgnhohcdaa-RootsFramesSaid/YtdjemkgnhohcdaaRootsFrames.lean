/-
  Roots: the row of RootsFrames: a frame that is pushed holds nulls, and shows in no frame below it.
-/
import Derived.Test.YtdjemkgnhohcdaaLaw
import Derived.Test.YtdjemkgnhohcdaaRtF2
import Derived.Test.YtdjemkgnhohcdaaRtOpen
namespace Go.Proofs.Ytdjemkgnhohcdaa.rootsFrames
open Go.ChangeShapes Go.WideShapes Go.ChangeAt Go.RowKit
set_option linter.unusedVariables false

theorem own : ownKnob Try.prog.godebug = none := by kernel_rfl
theorem laid : laidOutB Try.prog = true := by kernel_rfl
theorem pars : Try.f4.params.toList.all (fun t => Try.prog.readableRec t && decide (t < Try.prog.types.size)) = true := by kernel_rfl
theorem pars' : ∀ t ∈ Try.f4.params.toList, Try.prog.readableRec t = true ∧ t < Try.prog.types.size := fun t ht => by
  have h := List.all_eq_true.1 pars t ht
  simpa using h

theorem contract (H : Type) (enc : TypeId × Value → H) (W : World) (base : Nat) (args : Array Value) (ds : List (DataW H)) (p : List MemPlace)
    (hval : ∀ (j : Nat) t v, Try.f4.params[j]? = some t → args[j]? = some v → Value.okWide Try.prog W .any base t v)
    (hA : DataW.TrodAll enc Try.prog W 0 (fun _ => true) true Try.f4.params.toList args.toList ds p) (hlt : ∀ x ∈ p, x.block < W.heap.size)
    (hsz : (DataW.weightsEach Try.prog Try.f4.params.toList ds).all (· ≤ reachBytes) = true) :
    Calls Try.prog 4 args W fun e W' => e = .returned (.bool true) ∧ Below W.heap.size W W' := by
  rw [Try.params4] at hA hval hsz
  obtain ⟨v0, v1, v2, v3, v4, v5, v6, v7, d0, d1, d2, d3, d4, d5, d6, d7, p0, p1, p2, p3, p4, p5, p6, p7, rfl, rfl, h0, h1, h2, h3, h4, h5, h6, h7⟩ := trodAll_eight hA
  obtain ⟨A3, n3, c3, l3, rfl, e3, r3⟩ := open_ops (hval 3 36 v3 rfl rfl) h3 (fun elems spare hd => sized_slice hsz (j := 3) (t := 36) (elems := elems) (spare := spare) rfl (by rw [← hd]; rfl) Try.underlying36)
  obtain ⟨A7, n7, c7, l7, rfl, e7, r7⟩ := open_ops (hval 7 36 v7 rfl rfl) h7 (fun elems spare hd => sized_slice hsz (j := 7) (t := 36) (elems := elems) (spare := spare) rfl (by rw [← hd]; rfl) Try.underlying36)
  obtain ⟨a0, rfl, rfl, rfl, w0⟩ := open_int Try.underlying3 (hval 0 3 v0 rfl rfl) h0
  obtain ⟨a1, rfl, rfl, rfl, w1⟩ := open_int Try.underlying3 (hval 1 3 v1 rfl rfl) h1
  obtain ⟨a2, rfl, rfl, rfl, w2⟩ := open_int Try.underlying3 (hval 2 3 v2 rfl rfl) h2
  obtain ⟨a4, rfl, rfl, rfl, w4⟩ := open_int Try.underlying3 (hval 4 3 v4 rfl rfl) h4
  obtain ⟨a5, rfl, rfl, rfl, w5⟩ := open_int Try.underlying3 (hval 5 3 v5 rfl rfl) h5
  obtain ⟨A6, n6, c6, l6, rfl, e6, r6, b6, k6, k6'⟩ := open_rd (hval 6 31 v6 rfl rfl) h6
  exact (frames_st a0 a1 a2 a4 a5 A3 A6 A7 n3 c3 n6 c6 n7 c7 l3 l7 l6 W (inI_of w0) (inI_of w1) (inI_of w2) (inI_of w4) (inI_of w5) e3 r3 e6 r6 e7 r7).mono fun e W' ⟨he, hf⟩ => ⟨he, hf.below (Nat.le_refl _) (by simp)⟩

set_option maxRecDepth 100000 in
theorem lifted (os : Os) (started : os.Started) (H : Type) (enc : TypeId × Value → H) :
    ReturnsInHanded {} Try.checked os 4 .any (Rows.rootsFramesSpec.pre6 enc Try.prog Try.f4 Rows.rootsFramesRow.domain false) (Rows.rootsFramesSpec.post enc Try.prog Try.f4 false true false false) :=
  law_lifted (C := Try.checked) (B := 4) started own (by kernel_rfl) Try.func4
    (ChangeSpec.witness6 (enc := enc) (C := Try.checked) false ⟨#[], #[.int .i64 0, .int .i64 0, .int .i64 0, .slice none 0 0, .int .i64 0, .int .i64 0, .slice none 0 0, .slice none 0 0], []⟩ 8 (by kernel_rfl) (by kernel_rfl) (by kernel_rfl) (by kernel_rfl))
    rfl (fun ds h => by match ds, h with | [_, _, _, _, _, _, _, _], _ => rfl) rfl Try.underlying4 laid pars' (contract H enc)

theorem over : Rows.rootsFramesRow.holds Try.pinned (OpenSpec.ofChange Rows.rootsFramesSpec) :=
  OpenClaim.holds_of_wide 4 Try.f4 rfl rfl rfl rfl rfl rfl rfl ⟨rfl, rfl, rfl, rfl, rfl⟩ rfl rfl rfl rfl rfl (by kernel_rfl) Try.func4 (by kernel_rfl)
    (of_decide_eq_true (by kernel_rfl)) (by unfold Func.isWrapper; first | (rw [if_pos (by decide +kernel)]; kernel_rfl) | (rw [if_neg (by decide +kernel)]; exact ⟨rfl, rfl⟩))
    (fun os started H enc _ => lifted os started H enc)

/-- The statement. -/
theorem proved : Rows.RootsFramesSaid :=
  over
#print axioms proved
end Go.Proofs.Ytdjemkgnhohcdaa.rootsFrames
