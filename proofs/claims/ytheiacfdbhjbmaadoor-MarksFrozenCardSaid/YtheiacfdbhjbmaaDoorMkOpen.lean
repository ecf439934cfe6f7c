/-
  Marks: the arguments opened (a slice of numbers), and the table of ones as it was laid.
-/
import Derived.Test.YtheiacfdbhjbmaaDoorMk10
import Derived.Test.YtheiacfdbhjbmaaDoorRows
import Derived.ChangeSlices
import Derived.OpenShut
import Derived.LaidMore
import Derived.ProofKit
import Derived.Stop.Joined
import Derived.Deep.Slices
import Derived.ChangeArms
namespace Go.Proofs.YtheiacfdbhjbmaaDoor
open Go.ChangeShapes Go.WideShapes Go.ChangeAt Go.RowKit Go.Deep Mk
set_option linter.unusedVariables false

theorem cells1 : Tryd.prog.cellsOf 3 = 1 := by kernel_rfl

theorem open_rd {H : Type} {enc : TypeId × Value → H} {w : World} {base b0 : Nat} {sp : Nat → Bool} {held : Bool} {r : Reach} {v : Value} {d : DataW H} {p : List MemPlace}
    (hv : Value.okWide Tryd.prog w r b0 22 v) (h : DataW.Trod enc Tryd.prog w base sp held 22 v d p) : ∃ A n c l, v = .slice A n c ∧ n = l.length ∧ RdI w A l ∧ ∀ x ∈ l, x ≤ 9223372036854775807 := by
  obtain ⟨A, n, c, rfl⟩ := okWide_slice Tryd.underlying22 hv
  obtain ⟨fuel, hf⟩ := h
  rcases open_ints Tryd.underlying22 Tryd.underlying3 cells1 hf with ⟨hcs, _⟩ | ⟨a, len, cap, zs, hcs, hb, hl, hm, hmm, _, hi, hw⟩
  · have hcs' : Value.slice A n c = .slice none 0 0 := by simpa [Value.cells] using hcs
    injection hcs' with e1 e2 e3
    subst e1 e2 e3
    exact ⟨none, 0, 0, [], rfl, rfl, RdI.nil _ _, by simp⟩
  · have hcs' : Value.slice A n c = .slice (some a) len cap := by simpa [Value.cells] using hcs
    injection hcs' with e1 e2 e3
    subst e1 e2 e3
    have hle : n ≤ zs.length := by rw [hmm]; split <;> omega
    have hln : (zs.take n).length = n := by rw [List.length_take]; omega
    refine ⟨some a, n, c, zs.take n, rfl, hln.symm, ⟨by rw [hln]; unfold maxLen at hm; omega, fun hn => ?_⟩, fun x hx => ?_⟩
    · rw [hln] at hn
      have h0 := hi 0 (by omega)
      have ha : a.add 0 = a := by simp [Addr.add]
      rw [ha] at h0
      obtain ⟨bb, o, spot⟩ := a
      have hs : spot = none := by
        cases spot with
        | none => rfl
        | some s =>
          unfold World.cell? at h0
          split at h0 <;> simp at h0
      subst hs
      refine ⟨bb, o, rfl, block_lt_of_cell h0, fun i x hx => ?_⟩
      rw [List.getElem?_take] at hx
      split at hx
      · have hiz : i < zs.length := (List.getElem?_eq_some_iff.1 hx).1
        have h1 := hi i hiz
        rw [show (⟨bb, o, none⟩ : Addr).add i = ⟨bb, o + i, none⟩ from by unfold Addr.add; split <;> simp_all, show zs.getD i 0 = x from by rw [List.getD_eq_getElem?_getD, hx]; rfl] at h1
        exact h1
      · cases hx
    · have := hw x (List.mem_of_mem_take hx)
      simp only [Lit.wf, Bool.and_eq_true, decide_eq_true_eq] at this
      exact this.2

theorem gOnes : Tryd.prog.globalNamed "midden/marks.ones" = some 0 := by kernel_rfl
theorem tOnes : (Tryd.prog.globals[0]?).map (·.type) = some 74 := by kernel_rfl
theorem onesEq : (Rows.laid_midden_marks_ones : DataW Unit) = .agg (onesL.map fun (n : Nat) => .lit (.int .i64 (n : Int))) := rfl
theorem onesLen : onesL.length = 16 := rfl

theorem on_of_laid {W : World} (h : laidMetH Tryd.prog [("midden/marks.ones", Rows.laid_midden_marks_ones)] W) : On W := by
  rw [MakeChecks.laidMetH_plain _ _ _ (by kernel_rfl)] at h
  obtain ⟨ps, ⟨g0, t0, cs0, f0, p0, q0, hg0, ht0, hv0, hd0, _, _⟩, _, _⟩ := h
  obtain rfl := Option.some.inj (gOnes.symm.trans hg0)
  obtain rfl := Option.some.inj (tOnes.symm.trans ht0)
  obtain ⟨xs, m1, rfl, hx1, hlen, hn, hel⟩ := DataW.trod_array Tryd.underlying74 hd0
  rw [cells1] at hel
  have hcell : ∀ k, k < 16 → W.cell? ⟨0, k, none⟩ = some (.int .i64 ((onesL.getD k 0 : Nat) : Int)) := by
    intro k hk
    have h1 := hel k hk
    rw [Nat.mul_one, List.getElem?_eq_getElem (by omega : k < xs.length)] at h1
    obtain ⟨z, e1, e2, _⟩ := DataW.trod_int Tryd.underlying3 h1
    have e3 : (xs.map (·.1))[k]? = some (.lit (.int .i64 z)) := by
      rw [List.getElem?_map, List.getElem?_eq_getElem (by omega : k < xs.length), e2]
      rfl
    have e4 : (DataW.agg (xs.map (·.1)) : DataW Unit) = .agg (onesL.map fun (n : Nat) => .lit (.int .i64 (n : Int))) := by
      have := congrArg Prod.fst hx1
      rw [← onesEq]
      exact this.symm
    injection e4 with e4
    rw [e4, List.getElem?_map, List.getElem?_eq_getElem (by rw [onesLen]; omega : k < onesL.length)] at e3
    simp only [Option.map_some, Option.some.injEq, DataW.lit.injEq, Lit.int.injEq, true_and] at e3
    have hcl := World.var?_cell hg0 hv0 k
    refine hcl.trans ?_
    have e5 : cs0[k]? = some (.int .i64 z) := by
      rw [← Array.getElem?_toList]
      have := congrArg (fun l => l[0]?) e1
      simpa using this
    rw [e5, ← e3, List.getD_eq_getElem?_getD, List.getElem?_eq_getElem (by rw [onesLen]; omega : k < onesL.length)]
    rfl
  exact ⟨block_lt_of_cell (hcell 0 (by omega)), hcell⟩
end Go.Proofs.YtheiacfdbhjbmaaDoor
