/-
  Roots: the row of RootsFresh: what the roots hand out is the caller's own, and roots made beside one another hold each their own.
-/
import Derived.Test.YtdcppdgnekhcgaaGreatDoorLawT
import Derived.Test.YtdcppdgnekhcgaaGreatDoorTie
import Derived.Test.YtdcppdgnekhcgaaGreatDoorCards
import Derived.Test.YtdcppdgnekhcgaaGreatDoorFr3
import Derived.Test.YtdcppdgnekhcgaaGreatDoorFr5
import Derived.Test.YtdcppdgnekhcgaaGreatDoorRtOpen
namespace Go.Proofs.YtdcppdgnekhcgaaGreatDoor.rootsFresh
open Go.ChangeShapes Go.WideShapes Go.ChangeAt Go.RowKit
set_option linter.unusedVariables false
set_option maxRecDepth 100000

theorem own : ownKnob Tryz.prog.godebug = none := by kernel_rfl
theorem laid : laidOutB Tryz.prog = true := by kernel_rfl
theorem pars : Tryz.f4.params.toList.all (fun t => Tryz.prog.readableRec t && decide (t < Tryz.prog.types.size)) = true := by kernel_rfl
theorem pars' : ∀ t ∈ Tryz.f4.params.toList, Tryz.prog.readableRec t = true ∧ t < Tryz.prog.types.size := fun t ht => by
  have h := List.all_eq_true.1 pars t ht
  simpa using h

/-- The door's own heap meets the condition. -/
theorem door_met (os : Os) (args : Array Value) : laidMetH Tryz.prog Rows.rootsFreshRow.laid ((World.doorLaid Tryz.prog 24 os).forCall (fun _ _ => 0) ⟨#[], args, []⟩).memory :=
  laidMetH_of_parts3 (fuel := 8) (laidMet_of_run' 8 (by kernel_rfl) (by kernel_rfl)) (by kernel_rfl) (by kernel_rfl)

theorem contract (H : Type) (enc : TypeId × Value → H) (W : World) (base : Nat) (args : Array Value) (ds : List (DataW H)) (p : List MemPlace)
    (hval : ∀ (j : Nat) t v, Tryz.f4.params[j]? = some t → args[j]? = some v → Value.okWide Tryz.prog W .any base t v)
    (hA : DataW.TrodAll enc Tryz.prog W 0 (fun _ => true) true Tryz.f4.params.toList args.toList ds p) (hlt : ∀ x ∈ p, x.block < W.heap.size)
    (hsz : (DataW.weightsEach Tryz.prog Tryz.f4.params.toList ds).all (· ≤ reachBytes) = true) (hL : laidMetH Tryz.prog Rows.rootsFreshRow.laid W) :
    Calls Tryz.prog 4 args W fun e W' => e = .returned (.bool true) ∧ Below W.heap.size W W' := by
  rw [Tryz.params4] at hA hval hsz
  obtain ⟨v0, v1, v2, v3, d0, d1, d2, d3, p0, p1, p2, p3, rfl, rfl, h0, h1, h2, h3⟩ := trodAll_four hA
  obtain ⟨A3, n3, c3, l3, rfl, e3, r3⟩ := open_ops (hval 3 47 v3 rfl rfl) h3 (fun elems spare hd => sized_slice hsz (j := 3) (t := 47) (elems := elems) (spare := spare) rfl (by rw [← hd]; rfl) Tryz.underlying47)
  obtain ⟨a0, rfl, rfl, rfl, w0⟩ := open_int Tryz.underlying3 (hval 0 3 v0 rfl rfl) h0
  obtain ⟨a1, rfl, rfl, rfl, w1⟩ := open_int Tryz.underlying3 (hval 1 3 v1 rfl rfl) h1
  obtain ⟨a2, rfl, rfl, rfl, w2⟩ := open_int Tryz.underlying3 (hval 2 3 v2 rfl rfl) h2
  exact (fresh_st a0 a1 a2 A3 n3 c3 l3 W (inI_of w0) (inI_of w1) (inI_of w2) e3 r3 many_any).mono fun e W' ⟨he, hf⟩ => ⟨he, hf.below (Nat.le_refl _) (by simp)⟩

set_option maxRecDepth 100000 in
theorem lifted (os : Os) (started : os.Started) (H : Type) (enc : TypeId × Value → H) :
    ReturnsInHanded {} Tryz.checked os 4 .any (fun w args => (Rows.rootsFreshSpec.pre enc Tryz.prog Tryz.f4 [] false w args ∧ laidMetH Tryz.prog Rows.rootsFreshRow.laid w) ∧ sizedMet enc Tryz.prog Tryz.f4 (OpenSpec.ofChange Rows.rootsFreshSpec) false w args)
      (Rows.rootsFreshSpec.post enc Tryz.prog Tryz.f4 false true false false) :=
  law_lifted_tied (C := Tryz.checked) (B := 4) started own (by kernel_rfl) Tryz.func4
    (ChangeSpec.witness_shaped (enc := enc) (C := Tryz.checked) (os := os) (X := fun w _ => laidMetH Tryz.prog Rows.rootsFreshRow.laid w) false (World.doorLaid Tryz.prog 24 os) #[(.int .i64 0), (.int .i64 0), (.int .i64 0), (.slice none 0 0)] 8 rfl (World.shaped_of_RefB (by kernel_rfl) (by kernel_rfl)) (by kernel_rfl) (by kernel_rfl) (by kernel_rfl) (door_met os _))
    rfl (fun ds h => by match ds, h with | [_, _, _, _], _ => rfl) rfl Tryz.underlying4 laid pars' (contract H enc)

theorem over : Rows.rootsFreshRow.holds Tryz.pinned (OpenSpec.ofChange Rows.rootsFreshSpec) :=
  OpenClaim.holds_of_wide 4 Tryz.f4 rfl rfl rfl rfl rfl rfl rfl ⟨rfl, rfl, rfl, rfl, rfl⟩ rfl rfl rfl rfl rfl (by kernel_rfl) Tryz.func4 (by kernel_rfl)
    (of_decide_eq_true (by kernel_rfl)) (by unfold Func.isWrapper; first | (rw [if_pos (by decide +kernel)]; kernel_rfl) | (rw [if_neg (by decide +kernel)]; exact ⟨rfl, rfl⟩))
    (fun os started H enc _ => lifted os started H enc)

/-- The statement: the tied card. -/
theorem proved : Rows.RootsFreshCardSaid :=
  Claim7.holds_tied_plain_at .later [] [.data, .data, .data] true (true, "a5d29043bc9532b61745d012c0455dbcd934f089b2396a8d667c30f0d23e9763") false
    over (fun _ h => by cases h) (by kernel_rfl) (fun _ h => by cases h) rootsFresh_row_tie rfl ⟨rfl, rfl⟩ (by kernel_rfl) rfl
    (fun f fn hf hfn => by
      obtain rfl : f = 4 := Option.some.inj ((show Tryz.prog.funcNamed "midden/middenlaw5.RootsFresh" = some 4 by kernel_rfl).symm.trans hf) |>.symm
      obtain rfl : fn = Tryz.f4 := (Option.some.inj (Tryz.func4.symm.trans hfn)).symm
      exact ⟨by kernel_rfl, fun j t ht => by
        rw [Tryz.params4] at ht
        have hm : t ∈ ([3, 3, 3, 47] : List TypeId) := by simpa using Array.mem_of_getElem? ht
        have hall : (([3, 3, 3, 47] : List TypeId).all fun u => !Tryz.prog.wantsStandIn u) = true := by kernel_rfl
        exact (show Tryz.prog.wantsStandIn t = false by simpa using List.all_eq_true.1 hall t hm)⟩)
    (by kernel_rfl)
#print axioms proved
end Go.Proofs.YtdcppdgnekhcgaaGreatDoor.rootsFresh
