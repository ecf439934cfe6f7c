/-
  A struct whose fields are all ints, as a row of numbers.
-/
import Derived.SizedLaws
import Derived.Carry
import Derived.ChangeSame
import Derived.ProofKit
import Derived.OpenShut
import Derived.Test.YtdcppdgnekhcgaaGreatDoorBase
import Derived.Deep.Slices
import Derived.Deep.Fields
import Derived.ChangeArms
namespace Go.Proofs.YtdcppdgnekhcgaaGreatDoor
open Go.ChangeShapes Go.WideShapes Go.ChangeAt Go.RowKit Go.Deep
set_option maxRecDepth 100000

def intFields (I : TypeId) (fs : Array Field) : Bool := (List.range fs.size).all fun i => match fs[i]? with
  | some f => f.offset == i && f.type == I
  | none => false

theorem struct_ints {H : Type} {enc : TypeId × Value → H} {P : Program} {w : World} {base : Nat} {sp : Nat → Bool} {held : Bool} {fuel : Nat} {cs : List Value} {x : DataW H × List MemPlace} {t I : TypeId} {fs : Array Field}
    (hI : P.underlying I = some (.int .i64)) (hI1 : P.cellsOf I = 1) (ht : P.underlying t = some (.struct fs)) (hC : P.cellsOf t = fs.size) (hall : intFields I fs = true)
    (h : DataW.trod enc P w base sp held fuel t cs = some x) : cs.length = fs.size ∧ ∃ f : Nat → Int, ∀ i, i < fs.size → cs[i]? = some (.int .i64 (f i)) ∧ (Lit.int .i64 (f i)).wf = true := by
  obtain ⟨xs, n, _, _, hlen, hxl, hf⟩ := DataW.trod_struct ht h
  rw [hC] at hlen
  refine ⟨hlen, ?_⟩
  have one : ∀ i, ∃ z, i < fs.size → cs[i]? = some (.int .i64 z) ∧ (Lit.int .i64 z).wf = true := by
    intro i
    by_cases hlt : i < fs.size
    · have hfi : fs[i]? = some (fs[i]'hlt) := Array.getElem?_eq_getElem hlt
      have h2 := List.all_eq_true.1 hall i (List.mem_range.2 hlt)
      rw [hfi] at h2
      simp only [Bool.and_eq_true, beq_iff_eq] at h2
      have h1 := hf i _ hfi
      rw [h2.1, h2.2, hI1, List.getElem?_eq_getElem (by omega)] at h1
      obtain ⟨z, hz, _, hw⟩ := DataW.trod_int hI h1
      have hd : (cs.drop i).take 1 = [cs[i]'(by omega)] := by
        rw [List.drop_eq_getElem_cons (by omega)]
        rfl
      rw [hd] at hz
      have : cs[i]'(by omega) = .int .i64 z := by simpa using hz
      exact ⟨z, fun _ => ⟨by rw [List.getElem?_eq_getElem (by omega), this], hw⟩⟩
    · exact ⟨0, fun h => absurd h hlt⟩
  exact ⟨fun i => (one i).choose, fun i hi => (one i).choose_spec hi⟩
end Go.Proofs.YtdcppdgnekhcgaaGreatDoor
