/-
  Bag: the arguments opened: a slice of numbers.
-/
import Derived.Test.YtdjaalkbpdmdgaaGreatBg1
import Derived.Test.YtdjaalkbpdmdgaaGreatLaw
import Derived.ChangeSlices
import Derived.OpenShut
import Derived.DataShut
import Derived.Deep.Slices
import Derived.ChangeArms
namespace Go.Proofs.YtdjaalkbpdmdgaaGreat
open Go.ChangeShapes Go.WideShapes Go.ChangeAt Go.RowKit Go.Deep
set_option linter.unusedVariables false

theorem cells1 : Tryz.prog.cellsOf 3 = 1 := by kernel_rfl

set_option maxRecDepth 100000 in
theorem open_rd {H : Type} {enc : TypeId × Value → H} {w : World} {base b0 : Nat} {sp : Nat → Bool} {held : Bool} {r : Reach} {v : Value} {d : DataW H} {p : List MemPlace}
    (hv : Value.okWide Tryz.prog w r b0 68 v) (h : DataW.Trod enc Tryz.prog w base sp held 68 v d p) :
    ∃ A n c l, v = .slice A n c ∧ n = l.length ∧ RdI w A l ∧ (∀ x ∈ l, -9223372036854775808 ≤ x ∧ x ≤ 9223372036854775807) ∧ n ≤ c ∧ c ≤ 9223372036854775807 := by
  obtain ⟨A, n, c, rfl⟩ := okWide_slice Tryz.underlying68 hv
  obtain ⟨fuel, hf⟩ := h
  rcases open_ints Tryz.underlying68 Tryz.underlying3 cells1 hf with ⟨hcs, _⟩ | ⟨a, len, cap, zs, hcs, hb, hl, hm, hmm, _, hi, hw⟩
  · have hcs' : Value.slice A n c = .slice none 0 0 := by simpa [Value.cells] using hcs
    injection hcs' with e1 e2 e3
    subst e1 e2 e3
    exact ⟨none, 0, 0, [], rfl, rfl, RdI.nil _ _, by simp, by omega, by omega⟩
  · have hcs' : Value.slice A n c = .slice (some a) len cap := by simpa [Value.cells] using hcs
    injection hcs' with e1 e2 e3
    subst e1 e2 e3
    have hle : n ≤ zs.length := by rw [hmm]; split <;> omega
    have hln : (zs.take n).length = n := by rw [List.length_take]; omega
    refine ⟨some a, n, c, zs.take n, rfl, hln.symm, ⟨by rw [hln]; unfold maxLen at hm; omega, fun hn => ?_⟩, fun x hx => ?_, hl, by unfold maxLen at hm; omega⟩
    · rw [hln] at hn
      have h0 := hi 0 (by omega)
      have ha : a.add 0 = a := by simp [Addr.add]
      rw [ha] at h0
      obtain ⟨bb, o, spot⟩ := a
      have hs : spot = none := by
        cases spot with
        | none => rfl
        | some s =>
          unfold World.cell? at h0
          split at h0 <;> simp at h0
      subst hs
      refine ⟨bb, o, rfl, block_lt_of_cell h0, fun i x hx => ?_⟩
      rw [List.getElem?_take] at hx
      split at hx
      · have hiz : i < zs.length := (List.getElem?_eq_some_iff.1 hx).1
        have h1 := hi i hiz
        rw [show (⟨bb, o, none⟩ : Addr).add i = ⟨bb, o + i, none⟩ from by unfold Addr.add; split <;> simp_all, show zs.getD i 0 = x from by rw [List.getD_eq_getElem?_getD, hx]; rfl] at h1
        exact h1
      · cases hx
    · have := (Lit.wf_int_iff .i64 x).1 (hw x (List.mem_of_mem_take hx))
      have e1 : IntKind.i64.max = 9223372036854775807 := rfl
      have e2 : IntKind.i64.min = -9223372036854775808 := rfl
      rw [e1, e2] at this
      exact this
end Go.Proofs.YtdjaalkbpdmdgaaGreat
