/-
  The arguments of the policy statements, opened.
-/
import Derived.Test.YtdcppdgnekhcgaaGreatDoorStructs
import Derived.Test.YtdcppdgnekhcgaaGreatDoorPol1
namespace Go.Proofs.YtdcppdgnekhcgaaGreatDoor
open Go.ChangeShapes Go.WideShapes Go.ChangeAt Go.RowKit Go.Deep
set_option maxRecDepth 100000

theorem cellsInt : Tryz.prog.cellsOf 3 = 1 := by kernel_rfl
theorem cellsCfg : Tryz.prog.cellsOf 23 = 14 := by kernel_rfl

theorem list_ext_ints {cs : List Value} {A : Array Value} {n : Nat} {f : Nat → Int} (hl : cs.length = n) (hA : A.size = n) (h : ∀ i, i < n → cs[i]? = some (.int .i64 (f i))) (h' : ∀ i, i < n → A[i]? = some (.int .i64 (f i))) : cs = A.toList := by
  refine List.ext_getElem? fun i => ?_
  by_cases hlt : i < n
  · exact ((h i hlt).trans (h' i hlt).symm).trans (Array.getElem?_toList ..).symm
  · rw [List.getElem?_eq_none (by omega), List.getElem?_eq_none (by simp; omega)]

theorem cfgA_get (c : Nat → Int) {k : Nat} (h : k < 14) : (cfgA c)[k]? = some (.int .i64 (c k)) := by
  match k, h with
  | 0, _ | 1, _ | 2, _ | 3, _ | 4, _ | 5, _ | 6, _ | 7, _ | 8, _ | 9, _ | 10, _ | 11, _ | 12, _ | 13, _ => rfl
  | k + 14, h => omega

theorem open_cfg {H : Type} {enc : TypeId × Value → H} {w : World} {base b0 : Nat} {sp : Nat → Bool} {held : Bool} {r : Reach} {v : Value} {d : DataW H} {p : List MemPlace}
    (hv : Value.okWide Tryz.prog w r b0 23 v) (h : DataW.Trod enc Tryz.prog w base sp held 23 v d p) : ∃ c, v = .agg (cfgA c) := by
  obtain ⟨cs, rfl, _⟩ := okWide_struct Tryz.underlying23 hv
  obtain ⟨fuel, hf⟩ := h
  obtain ⟨hlen, f, hf⟩ := struct_ints (I := 3) Tryz.underlying3 cellsInt Tryz.underlying23 cellsCfg (by kernel_rfl) (show DataW.trod enc Tryz.prog w base sp held fuel 23 cs.toList = _ from hf)
  refine ⟨f, ?_⟩
  have := list_ext_ints (A := cfgA f) (f := f) hlen rfl (fun i hi => (hf i hi).1) (fun i hi => cfgA_get f hi)
  rw [← Array.toArray_toList (xs := cs), this]
end Go.Proofs.YtdcppdgnekhcgaaGreatDoor
