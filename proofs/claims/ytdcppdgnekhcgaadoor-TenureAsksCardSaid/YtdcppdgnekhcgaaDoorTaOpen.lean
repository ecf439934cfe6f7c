/-
  The arguments of the tenure statements, opened: a row of sixteen words by value, a slice of such rows.
-/
import Derived.Test.YtdcppdgnekhcgaaDoorTa1
import Derived.Test.YtdcppdgnekhcgaaDoorLawT
import Derived.Deep.Slices
import Derived.ChangeArms
namespace Go.Proofs.YtdcppdgnekhcgaaDoor
open Go.ChangeShapes Go.WideShapes Go.ChangeAt Go.RowKit Go.Deep
set_option maxRecDepth 100000
set_option linter.constructorNameAsVariable false

theorem cells16 : Tryd.prog.cellsOf 53 = 16 := by kernel_rfl
theorem cells1 : Tryd.prog.cellsOf 3 = 1 := by kernel_rfl

theorem arr16_getL (f : Nat → Int) {k : Nat} (h : k < 16) : (arr16 f).toList[k]? = some (.int .i64 (f k)) := (Array.getElem?_toList ..).trans (arr16_get f h)

theorem row16 {H : Type} {enc : TypeId × Value → H} {w : World} {base : Nat} {sp : Nat → Bool} {held : Bool} {fuel : Nat} {cs : List Value} {x : DataW H × List MemPlace}
    (h : DataW.trod enc Tryd.prog w base sp held fuel 53 cs = some x) : ∃ f, cs = (arr16 f).toList ∧ ∀ j, j < 16 → (Lit.int .i64 (f j)).wf = true := by
  obtain ⟨xs, m, _, _, hlen, hxl, hi⟩ := DataW.trod_array Tryd.underlying53 h
  rw [cells16] at hlen
  rw [cells1] at hi
  have one : ∀ i, ∃ z, i < 16 → cs[i]? = some (.int .i64 z) ∧ (Lit.int .i64 z).wf = true := by
    intro i
    by_cases hlt : i < 16
    · have h1 := hi i hlt
      rw [Nat.mul_one] at h1
      have hx : xs[i]? = some (xs[i]'(by omega)) := List.getElem?_eq_getElem (by omega)
      rw [hx] at h1
      obtain ⟨z, hz, _, hw⟩ := DataW.trod_int Tryd.underlying3 h1
      have hd : (cs.drop i).take 1 = [cs[i]'(by omega)] := by
        rw [List.drop_eq_getElem_cons (by omega)]
        rfl
      rw [hd] at hz
      have : cs[i]'(by omega) = .int .i64 z := by simpa using hz
      exact ⟨z, fun _ => ⟨by rw [List.getElem?_eq_getElem (by omega), this], hw⟩⟩
    · exact ⟨0, fun h => absurd h hlt⟩
  refine ⟨fun i => (one i).choose, ?_, fun j hj => ((one j).choose_spec hj).2⟩
  refine List.ext_getElem? fun i => ?_
  by_cases hlt : i < 16
  · exact ((one i).choose_spec hlt).1.trans (arr16_getL (fun i => (one i).choose) hlt).symm
  · rw [List.getElem?_eq_none (by omega), List.getElem?_eq_none (by show 16 ≤ i; omega)]

theorem open_row16 {H : Type} {enc : TypeId × Value → H} {w : World} {base b0 : Nat} {sp : Nat → Bool} {held : Bool} {r : Reach} {v : Value} {d : DataW H} {p : List MemPlace}
    (hv : Value.okWide Tryd.prog w r b0 53 v) (h : DataW.Trod enc Tryd.prog w base sp held 53 v d p) : ∃ f, v = .agg (arr16 f) ∧ ∀ j, j < 16 → (Lit.int .i64 (f j)).wf = true := by
  obtain ⟨cs, rfl⟩ : ∃ cs, v = .agg cs := by
    simp only [Value.okWide, Tryd.underlying53] at hv
    cases v <;> simp_all
  obtain ⟨fuel, hf⟩ := h
  obtain ⟨f, h1, h2⟩ := row16 (show DataW.trod enc Tryd.prog w base sp held fuel 53 cs.toList = _ from hf)
  exact ⟨f, by rw [← Array.toArray_toList (xs := cs), h1], h2⟩

theorem open_turns {H : Type} {enc : TypeId × Value → H} {w : World} {base b0 : Nat} {sp : Nat → Bool} {held : Bool} {r : Reach} {v : Value} {d : DataW H} {p : List MemPlace}
    (hv : Value.okWide Tryd.prog w r b0 22 v) (h : DataW.Trod enc Tryd.prog w base sp held 22 v d p) : ∃ A n c F, v = .slice A n c ∧ Turns w A n F := by
  obtain ⟨A, n, c, rfl⟩ := okWide_slice Tryd.underlying22 hv
  obtain ⟨fuel, hf⟩ := h
  rcases open_slice Tryd.underlying22 hf with ⟨hcs, _⟩ | ⟨a, len, cap, m, n', D, Pl, hcs, hb, hl, hm, hmm, _, hi⟩
  · have hcs' : Value.slice A n c = .slice none 0 0 := by simpa [Value.cells] using hcs
    injection hcs' with e1 e2 e3
    subst e1 e2 e3
    exact ⟨none, 0, 0, fun _ _ => 0, rfl, by omega, fun h => absurd h (by omega)⟩
  · have hcs' : Value.slice A n c = .slice (some a) len cap := by simpa [Value.cells] using hcs
    injection hcs' with e1 e2 e3
    subst e1 e2 e3
    have hle : n ≤ m := by rw [hmm]; split <;> omega
    have all : ∀ i, ∃ f, i < n → ∀ j v, (arr16 f).toList[j]? = some v → w.cell? (a.add (i * 16 + j)) = some v := by
      intro i
      by_cases hlt : i < n
      · obtain ⟨cs', h1, h2⟩ := hi i (by omega)
        rw [cells16] at h1
        obtain ⟨f, hf2, _⟩ := row16 h2
        obtain ⟨_, hlen, hc⟩ := World.cells?_some h1
        refine ⟨f, fun _ j v hj => ?_⟩
        have hjl : j < 16 := by
          have := (List.getElem?_eq_some_iff.1 hj).1
          have h16 : (arr16 f).toList.length = 16 := rfl
          omega
        have := hc j hjl
        rw [hf2, hj] at this
        rw [← add_add]
        exact this
      · exact ⟨fun _ => 0, fun h => absurd h hlt⟩
    refine ⟨some a, n, c, fun i => (all i).choose, rfl, by unfold maxLen at hm; omega, fun hn => ?_⟩
    have h0 := (all 0).choose_spec hn 0 _ (arr16_getL _ (by omega))
    have ha : a.add (0 * 16 + 0) = a := by simp [Addr.add]
    rw [ha] at h0
    obtain ⟨bb, o, spot⟩ := a
    have hs : spot = none := by
      cases spot with
      | none => rfl
      | some s =>
        unfold World.cell? at h0
        split at h0 <;> simp at h0
    subst hs
    refine ⟨bb, o, rfl, block_lt_of_cell h0, fun i hlt j v hj => ?_⟩
    have := (all i).choose_spec hlt j v hj
    rw [Addr.add_mid] at this
    rw [show o + i * 16 + j = o + (i * 16 + j) from by omega]
    exact this
theorem trodAll_five {H : Type} {enc : TypeId × Value → H} {P : Program} {w : World} {base : Nat} {sp : Nat → Bool} {held : Bool} {t0 t1 t2 t3 t4 : TypeId} {args : Array Value} {ds : List (DataW H)} {ps : List MemPlace} (h : DataW.TrodAll enc P w base sp held [t0, t1, t2, t3, t4] args.toList ds ps) :
    ∃ v0 v1 v2 v3 v4 d0 d1 d2 d3 d4 p0 p1 p2 p3 p4, args = #[v0, v1, v2, v3, v4] ∧ ds = [d0, d1, d2, d3, d4] ∧ DataW.Trod enc P w base sp held t0 v0 d0 p0 ∧ DataW.Trod enc P w base sp held t1 v1 d1 p1 ∧ DataW.Trod enc P w base sp held t2 v2 d2 p2 ∧ DataW.Trod enc P w base sp held t3 v3 d3 p3 ∧ DataW.Trod enc P w base sp held t4 v4 d4 p4 := by
  obtain ⟨v0, vs0, d0, ds0, p0, q0, hargs, rfl, rfl, h0, r0⟩ := trodAll_cons h
  obtain ⟨v1, vs1, d1, ds1, p1, q1, rfl, rfl, rfl, h1, r1⟩ := trodAll_cons r0
  obtain ⟨v2, vs2, d2, ds2, p2, q2, rfl, rfl, rfl, h2, r2⟩ := trodAll_cons r1
  obtain ⟨v3, vs3, d3, ds3, p3, q3, rfl, rfl, rfl, h3, r3⟩ := trodAll_cons r2
  obtain ⟨v4, vs4, d4, ds4, p4, q4, rfl, rfl, rfl, h4, r4⟩ := trodAll_cons r3
  obtain ⟨rfl, rfl, rfl⟩ := trodAll_nil r4
  exact ⟨v0, v1, v2, v3, v4, d0, d1, d2, d3, d4, p0, p1, p2, p3, p4, by rw [← Array.toArray_toList (xs := args), hargs], rfl, h0, h1, h2, h3, h4⟩
end Go.Proofs.YtdcppdgnekhcgaaDoor
