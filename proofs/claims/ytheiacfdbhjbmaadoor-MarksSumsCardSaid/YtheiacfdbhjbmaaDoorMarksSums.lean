/-
  Marks: the row of MarksSums: its tied card: a piece that is cut in two has as many marked words as both parts; the runs' lengths are all marked words, no two touch, each is marked whole, and Next goes from one to the next.
-/
import Derived.Test.YtheiacfdbhjbmaaDoorLawT
import Derived.Test.YtheiacfdbhjbmaaDoorTie
import Derived.Test.YtheiacfdbhjbmaaDoorCards
import Derived.Test.YtheiacfdbhjbmaaDoorMkSum2
import Derived.Test.YtheiacfdbhjbmaaDoorMkOpen
namespace Go.Proofs.YtheiacfdbhjbmaaDoor.marksSums
open Go.ChangeShapes Go.WideShapes Go.ChangeAt Go.RowKit
set_option linter.unusedVariables false

theorem own : ownKnob Tryd.prog.godebug = none := by kernel_rfl
theorem laid : laidOutB Tryd.prog = true := by kernel_rfl
theorem pars : Tryd.f4.params.toList.all (fun t => Tryd.prog.readableRec t && decide (t < Tryd.prog.types.size)) = true := by kernel_rfl
theorem pars' : ∀ t ∈ Tryd.f4.params.toList, Tryd.prog.readableRec t = true ∧ t < Tryd.prog.types.size := fun t ht => by
  have h := List.all_eq_true.1 pars t ht
  simpa using h

/-- The door's own heap meets the condition. -/
theorem door_met (os : Os) (args : Array Value) : laidMetH Tryd.prog Rows.marksSumsRow.laid ((World.doorLaid Tryd.prog 14 os).forCall (fun _ _ => 0) ⟨#[], args, []⟩).memory :=
  laidMetH_of_parts3 (fuel := 8) (laidMet_of_run' 8 (by kernel_rfl) (by kernel_rfl)) (by kernel_rfl) (by kernel_rfl)

theorem contract (H : Type) (enc : TypeId × Value → H) (W : World) (base : Nat) (args : Array Value) (ds : List (DataW H)) (p : List MemPlace)
    (hval : ∀ (j : Nat) t v, Tryd.f4.params[j]? = some t → args[j]? = some v → Value.okWide Tryd.prog W .any base t v)
    (hA : DataW.TrodAll enc Tryd.prog W 0 (fun _ => true) true Tryd.f4.params.toList args.toList ds p) (hlt : ∀ x ∈ p, x.block < W.heap.size)
    (hsz : (DataW.weightsEach Tryd.prog Tryd.f4.params.toList ds).all (· ≤ reachBytes) = true) (hL : laidMetH Tryd.prog Rows.marksSumsRow.laid W) :
    Calls Tryd.prog 4 args W fun e W' => e = .returned (.bool true) ∧ Below W.heap.size W W' := by
  rw [Tryd.params4] at hA hval
  obtain ⟨v0, vs0, d0, ds0, p0, q0, ha0, rfl, rfl, h0, hr0⟩ := trodAll_cons hA
  obtain ⟨v1, v2, v3, v4, d1, d2, d3, d4, p1, p2, p3, p4, ha1, rfl, rfl, h1, h2, h3, h4⟩ := trodAll_four (args := vs0.toArray) (by simpa using hr0)
  obtain rfl : args = #[v0, v1, v2, v3, v4] := by
    have h5 : vs0 = [v1, v2, v3, v4] := by simpa using congrArg Array.toList ha1
    subst h5
    exact Array.ext' (by simpa using ha0)
  obtain ⟨a0, rfl, rfl, rfl, w0⟩ := open_int Tryd.underlying3 (hval 0 3 v0 rfl rfl) h0
  obtain ⟨A1, n1, c1, l1, rfl, e1, r1, b1⟩ := open_rd (hval 1 22 v1 rfl rfl) h1
  obtain ⟨a2, rfl, rfl, rfl, w2⟩ := open_int Tryd.underlying3 (hval 2 3 v2 rfl rfl) h2
  obtain ⟨a3, rfl, rfl, rfl, w3⟩ := open_int Tryd.underlying3 (hval 3 3 v3 rfl rfl) h3
  obtain ⟨a4, rfl, rfl, rfl, w4⟩ := open_int Tryd.underlying3 (hval 4 3 v4 rfl rfl) h4
  have hO : On W := on_of_laid hL
  by_cases hw : 0 ≤ a0 ∧ a0 ≤ 8192
  · obtain ⟨words, rfl⟩ := Int.eq_ofNat_of_zero_le hw.1
    exact (sums_good words a2 a3 a4 A1 n1 c1 l1 W (by omega) e1 r1 b1 hO).mono fun e W' ⟨he, hf⟩ => ⟨he, hf.below (Nat.le_refl _) (by simp)⟩
  · exact (sums_none a0 a2 a3 a4 A1 n1 c1 l1 W hw hO).mono fun e W' ⟨he, hf⟩ => ⟨he, hf.below (Nat.le_refl _) (by simp)⟩

set_option maxRecDepth 100000 in
theorem lifted (os : Os) (started : os.Started) (H : Type) (enc : TypeId × Value → H) :
    ReturnsInHanded {} Tryd.checked os 4 .any (fun w args => (Rows.marksSumsSpec.pre enc Tryd.prog Tryd.f4 [] false w args ∧ laidMetH Tryd.prog Rows.marksSumsRow.laid w) ∧ sizedMet enc Tryd.prog Tryd.f4 (OpenSpec.ofChange Rows.marksSumsSpec) false w args)
      (Rows.marksSumsSpec.post enc Tryd.prog Tryd.f4 false true false false) :=
  law_lifted_tied (C := Tryd.checked) (B := 4) started own (by kernel_rfl) Tryd.func4
    (ChangeSpec.witness_shaped (enc := enc) (C := Tryd.checked) (os := os) (X := fun w _ => laidMetH Tryd.prog Rows.marksSumsRow.laid w) false (World.doorLaid Tryd.prog 14 os) #[.int .i64 0, .slice none 0 0, .int .i64 0, .int .i64 0, .int .i64 0] 8 rfl (World.shaped_of_RefB (by kernel_rfl) (by kernel_rfl)) (by kernel_rfl) (by kernel_rfl) (by kernel_rfl) (door_met os _))
    rfl (fun ds h => by match ds, h with | [_, _, _, _, _], _ => rfl) rfl Tryd.underlying4 laid pars' (contract H enc)

theorem over : Rows.marksSumsRow.holds Tryd.pinned (OpenSpec.ofChange Rows.marksSumsSpec) :=
  OpenClaim.holds_of_wide 4 Tryd.f4 rfl rfl rfl rfl rfl rfl rfl ⟨rfl, rfl, rfl, rfl, rfl⟩ rfl rfl rfl rfl rfl (by kernel_rfl) Tryd.func4 (by kernel_rfl)
    (of_decide_eq_true (by kernel_rfl)) (by unfold Func.isWrapper; first | (rw [if_pos (by decide +kernel)]; kernel_rfl) | (rw [if_neg (by decide +kernel)]; exact ⟨rfl, rfl⟩))
    (fun os started H enc _ => lifted os started H enc)

/-- The statement: the tied card. -/
theorem proved : Rows.MarksSumsCardSaid :=
  Claim7.holds_tied_plain_at .later [] [.data] true (true, "3256824af140bb28ae773a5fe6a2e2c306377f1c7e3fc69687ed4436750b4baf") false
    over (fun _ h => by cases h) (by kernel_rfl) (fun _ h => by cases h) marksSums_row_tie rfl ⟨rfl, rfl⟩ (by kernel_rfl) rfl
    (fun f fn hf hfn => by
      obtain rfl : f = 4 := Option.some.inj ((show Tryd.prog.funcNamed "midden/middenlaw4.MarksSums" = some 4 by kernel_rfl).symm.trans hf) |>.symm
      obtain rfl : fn = Tryd.f4 := (Option.some.inj (Tryd.func4.symm.trans hfn)).symm
      exact ⟨by kernel_rfl, fun j t ht => by
        rw [Tryd.params4] at ht
        have hm : t ∈ ([3, 22, 3, 3, 3] : List TypeId) := by simpa using Array.mem_of_getElem? ht
        have hall : (([3, 22, 3, 3, 3] : List TypeId).all fun u => !Tryd.prog.wantsStandIn u) = true := by kernel_rfl
        exact (show Tryd.prog.wantsStandIn t = false by simpa using List.all_eq_true.1 hall t hm)⟩)
    (by kernel_rfl)
#print axioms proved
end Go.Proofs.YtheiacfdbhjbmaaDoor.marksSums
