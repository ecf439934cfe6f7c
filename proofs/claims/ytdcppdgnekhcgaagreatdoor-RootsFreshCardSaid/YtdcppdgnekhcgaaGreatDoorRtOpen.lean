/-
  Roots: the arguments opened: a list of numbers, a script.
-/
import Derived.Test.YtdcppdgnekhcgaaGreatDoorRtS13
import Derived.Test.YtdcppdgnekhcgaaGreatDoorRows
import Derived.ChangeSlices
import Derived.OpenShut
import Derived.LaidMore
import Derived.ProofKit
import Derived.Stop.Joined
import Derived.Deep.Slices
import Derived.ChangeArms
import Derived.SizedLaws
import Derived.DataShut
namespace Go.Proofs.YtdcppdgnekhcgaaGreatDoor
open Go.ChangeShapes Go.WideShapes Go.ChangeAt Go.RowKit Go.Deep
set_option maxRecDepth 100000
set_option linter.unusedVariables false

theorem cells1 : Tryz.prog.cellsOf 3 = 1 := by kernel_rfl

theorem open_rd {H : Type} {enc : TypeId × Value → H} {w : World} {base b0 : Nat} {sp : Nat → Bool} {held : Bool} {r : Reach} {v : Value} {d : DataW H} {p : List MemPlace}
    (hv : Value.okWide Tryz.prog w r b0 29 v) (h : DataW.Trod enc Tryz.prog w base sp held 29 v d p) :
    ∃ A n c l, v = .slice A n c ∧ n = l.length ∧ RdI w A l ∧ (∀ x ∈ l, -9223372036854775808 ≤ x ∧ x ≤ 9223372036854775807) ∧ n ≤ c ∧ c ≤ 9223372036854775807 := by
  obtain ⟨A, n, c, rfl⟩ := okWide_slice Tryz.underlying29 hv
  obtain ⟨fuel, hf⟩ := h
  rcases open_ints Tryz.underlying29 Tryz.underlying3 cells1 hf with ⟨hcs, _⟩ | ⟨a, len, cap, zs, hcs, hb, hl, hm, hmm, _, hi, hw⟩
  · have hcs' : Value.slice A n c = .slice none 0 0 := by simpa [Value.cells] using hcs
    injection hcs' with e1 e2 e3
    subst e1 e2 e3
    exact ⟨none, 0, 0, [], rfl, rfl, RdI.nil _ _, by simp, by omega, by omega⟩
  · have hcs' : Value.slice A n c = .slice (some a) len cap := by simpa [Value.cells] using hcs
    injection hcs' with e1 e2 e3
    subst e1 e2 e3
    have hle : n ≤ zs.length := by rw [hmm]; split <;> omega
    have hln : (zs.take n).length = n := by rw [List.length_take]; omega
    refine ⟨some a, n, c, zs.take n, rfl, hln.symm, ⟨by rw [hln]; unfold maxLen at hm; omega, fun hn => ?_⟩, fun x hx => ?_, hl, by unfold maxLen at hm; omega⟩
    · rw [hln] at hn
      have h0 := hi 0 (by omega)
      have ha : a.add 0 = a := by simp [Addr.add]
      rw [ha] at h0
      obtain ⟨bb, o, spot⟩ := a
      have hs : spot = none := by
        cases spot with
        | none => rfl
        | some s =>
          unfold World.cell? at h0
          split at h0 <;> simp at h0
      subst hs
      refine ⟨bb, o, rfl, block_lt_of_cell h0, fun i x hx => ?_⟩
      rw [List.getElem?_take] at hx
      split at hx
      · have hiz : i < zs.length := (List.getElem?_eq_some_iff.1 hx).1
        have h1 := hi i hiz
        rw [show (⟨bb, o, none⟩ : Addr).add i = ⟨bb, o + i, none⟩ from by unfold Addr.add; split <;> simp_all, show zs.getD i 0 = x from by rw [List.getD_eq_getElem?_getD, hx]; rfl] at h1
        exact h1
      · cases hx
    · have := (Lit.wf_int_iff .i64 x).1 (hw x (List.mem_of_mem_take hx))
      have e1 : IntKind.i64.max = 9223372036854775807 := rfl
      have e2 : IntKind.i64.min = -9223372036854775808 := rfl
      rw [e1, e2] at this
      exact this

theorem cellsOp : Tryz.prog.cellsOf 78 = 6 := by kernel_rfl
theorem cellsB : Tryz.prog.cellsOf 4 = 1 := by kernel_rfl
theorem cellsL : Tryz.prog.cellsOf 29 = 1 := by kernel_rfl
theorem bytesOp : Tryz.prog.bytesOf 78 = 64 := by kernel_rfl
theorem inI_of {x : Int} (h : (Lit.int .i64 x).wf = true) : inI x := by
  have := (Lit.wf_int_iff .i64 x).1 h
  have e1 : IntKind.i64.max = 9223372036854775807 := rfl
  have e2 : IntKind.i64.min = -9223372036854775808 := rfl
  rw [e1, e2] at this
  exact this

theorem op_row {H : Type} {enc : TypeId × Value → H} {w : World} {base : Nat} {sp : Nat → Bool} {held : Bool} {fuel : Nat} {cs : List Value} {x : DataW H × List MemPlace}
    (h : DataW.trod enc Tryz.prog w base sp held fuel 78 cs = some x) : ∃ v : Oq, cs = [.int .i64 v.k, .int .i64 v.t, .int .i64 v.n, .int .i64 v.a, .bool v.s, .slice v.la v.ln v.lc] := by
  obtain ⟨xs, n, _, _, hlen, hxl, hf⟩ := DataW.trod_struct Tryz.underlying78 h
  rw [cellsOp] at hlen
  have hxl : xs.length = 6 := hxl
  match cs, hlen with
  | [c0, c1, c2, c3, c4, c5], _ =>
    have h0 : DataW.trod enc Tryz.prog w base sp held n 3 (([c0, c1, c2, c3, c4, c5].drop 0).take (Tryz.prog.cellsOf 3)) = xs[0]? := hf 0 _ rfl
    have h1 : DataW.trod enc Tryz.prog w base sp held n 3 (([c0, c1, c2, c3, c4, c5].drop 1).take (Tryz.prog.cellsOf 3)) = xs[1]? := hf 1 _ rfl
    have h2 : DataW.trod enc Tryz.prog w base sp held n 3 (([c0, c1, c2, c3, c4, c5].drop 2).take (Tryz.prog.cellsOf 3)) = xs[2]? := hf 2 _ rfl
    have h3 : DataW.trod enc Tryz.prog w base sp held n 3 (([c0, c1, c2, c3, c4, c5].drop 3).take (Tryz.prog.cellsOf 3)) = xs[3]? := hf 3 _ rfl
    have h4 : DataW.trod enc Tryz.prog w base sp held n 4 (([c0, c1, c2, c3, c4, c5].drop 4).take (Tryz.prog.cellsOf 4)) = xs[4]? := hf 4 _ rfl
    have h5 : DataW.trod enc Tryz.prog w base sp held n 29 (([c0, c1, c2, c3, c4, c5].drop 5).take (Tryz.prog.cellsOf 29)) = xs[5]? := hf 5 _ rfl
    rw [List.getElem?_eq_getElem (by omega)] at h0 h1 h2 h3 h4 h5
    rw [cells1] at h0 h1 h2 h3
    rw [cellsB] at h4
    rw [cellsL] at h5
    obtain ⟨z0, e0, _, _⟩ := DataW.trod_int Tryz.underlying3 h0
    obtain ⟨z1, e1, _, _⟩ := DataW.trod_int Tryz.underlying3 h1
    obtain ⟨z2, e2, _, _⟩ := DataW.trod_int Tryz.underlying3 h2
    obtain ⟨z3, e3, _, _⟩ := DataW.trod_int Tryz.underlying3 h3
    obtain ⟨z4, e4, _⟩ := DataW.trod_bool Tryz.underlying4 h4
    have e0 : c0 = .int .i64 z0 := by simpa using e0
    have e1 : c1 = .int .i64 z1 := by simpa using e1
    have e2 : c2 = .int .i64 z2 := by simpa using e2
    have e3 : c3 = .int .i64 z3 := by simpa using e3
    have e4 : c4 = .bool z4 := by simpa using e4
    obtain ⟨la, ln, lc, e5⟩ : ∃ la ln lc, c5 = .slice la ln lc := by
      rcases open_slice Tryz.underlying29 h5 with ⟨hcs, _⟩ | ⟨a, len, cap, m, n', D, Pl, hcs, _⟩
      · exact ⟨_, _, _, by simpa using hcs⟩
      · exact ⟨_, _, _, by simpa using hcs⟩
    exact ⟨⟨z0, z1, z2, z3, z4, la, ln, lc⟩, by rw [e0, e1, e2, e3, e4, e5]⟩

theorem open_ops {H : Type} {enc : TypeId × Value → H} {w : World} {base b0 : Nat} {sp : Nat → Bool} {held : Bool} {r : Reach} {v : Value} {d : DataW H} {p : List MemPlace}
    (hv : Value.okWide Tryz.prog w r b0 47 v) (hx : DataW.Trod enc Tryz.prog w base sp held 47 v d p) (hsz : ∀ elems spare, d = .slice elems spare → (elems.length + spare.length) * Tryz.prog.bytesOf 78 ≤ reachBytes) :
    ∃ A n c l, v = .slice A n c ∧ n = l.length ∧ RdO w A l := by
  obtain ⟨A0, n0, c0, rfl⟩ := okWide_slice Tryz.underlying47 hv
  obtain ⟨fuel, h⟩ := hx
  have h : DataW.trod enc Tryz.prog w base sp held fuel 47 [Value.slice A0 n0 c0] = some _ := h
  rcases open_slice Tryz.underlying47 h with ⟨hcs, _⟩ | ⟨a, len, cap, m, n', D, Pl, hcs, hb, hl, hm, hmm, hxx, hi⟩
  · have e : Value.slice A0 n0 c0 = .slice none 0 0 := by simpa using hcs
    rw [e]
    exact ⟨none, 0, 0, [], rfl, rfl, by simp, fun h => absurd h (by simp)⟩
  · have e : Value.slice A0 n0 c0 = .slice (some a) len cap := by simpa using hcs
    rw [e]
    have hle : len ≤ m := by rw [hmm]; split <;> omega
    have hbig : len ≤ 2200000000000 := by
      have h1 := hsz _ _ (congrArg Prod.fst hxx)
      rw [bytesOp] at h1
      simp only [List.length_map, List.length_range] at h1
      unfold reachBytes at h1
      omega
    have all : ∀ i, ∃ f : Oq, i < len → ∀ j v, [Value.int .i64 f.k, .int .i64 f.t, .int .i64 f.n, .int .i64 f.a, .bool f.s, .slice f.la f.ln f.lc][j]? = some v → w.cell? (a.add (i * 6 + j)) = some v := by
      intro i
      by_cases hlt : i < len
      · obtain ⟨cs', h1, h2⟩ := hi i (by omega)
        rw [cellsOp] at h1
        obtain ⟨f, hf2⟩ := op_row h2
        obtain ⟨_, hlen, hc⟩ := World.cells?_some h1
        refine ⟨f, fun _ j v hj => ?_⟩
        have hjl : j < 6 := by
          have := (List.getElem?_eq_some_iff.1 hj).1
          simpa using this
        have := hc j hjl
        rw [hf2, hj] at this
        rw [← add_add]
        exact this
      · exact ⟨⟨0, 0, 0, 0, false, none, 0, 0⟩, fun h => absurd h hlt⟩
    refine ⟨some a, len, cap, (List.range len).map (fun i => (all i).choose), rfl, by simp, by simpa using hbig, fun hn => ?_⟩
    have hn' : 0 < len := by simpa using hn
    have h0 := (all 0).choose_spec hn' 0 _ rfl
    have ha : a.add (0 * 6 + 0) = a := by simp [Addr.add]
    rw [ha] at h0
    obtain ⟨bb, o, spot⟩ := a
    have hs : spot = none := by
      cases spot with
      | none => rfl
      | some s =>
        unfold World.cell? at h0
        split at h0 <;> simp at h0
    subst hs
    refine ⟨bb, o, rfl, block_lt_of_cell h0, fun k v hv => ?_⟩
    have hk : k < len := by
      have := (List.getElem?_eq_some_iff.1 hv).1
      simpa using this
    have hv' : v = (all k).choose := by
      rw [List.getElem?_map, List.getElem?_range hk] at hv
      exact (Option.some.inj hv).symm
    have hc := (all k).choose_spec hk
    rw [← hv'] at hc
    have e : ∀ j, (⟨bb, o, none⟩ : Addr).add (k * 6 + j) = ⟨bb, o + k * 6 + j, none⟩ := fun j => by rw [Addr.add_mid, Nat.add_assoc]
    refine ⟨?_, ?_, ?_, ?_, ?_, ?_⟩
    · have := hc 0 _ rfl; rw [e] at this; exact this
    · have := hc 1 _ rfl; rw [e] at this; exact this
    · have := hc 2 _ rfl; rw [e] at this; exact this
    · have := hc 3 _ rfl; rw [e] at this; exact this
    · have := hc 4 _ rfl; rw [e] at this; exact this
    · have := hc 5 _ rfl; rw [e] at this; exact this

theorem bytesI : Tryz.prog.bytesOf 3 = 8 := by kernel_rfl
/-- How long a handed list of numbers can be, by its size. -/
theorem rd_len {H : Type} {enc : TypeId × Value → H} {w : World} {base : Nat} {sp : Nat → Bool} {held : Bool} {A : Option Addr} {n c : Nat} {d : DataW H} {p : List MemPlace}
    (hx : DataW.Trod enc Tryz.prog w base sp held 29 (.slice A n c) d p) (hsz : ∀ elems spare, d = .slice elems spare → (elems.length + spare.length) * Tryz.prog.bytesOf 3 ≤ reachBytes) : n ≤ 17592186043904 := by
  obtain ⟨fuel, h⟩ := hx
  have h : DataW.trod enc Tryz.prog w base sp held fuel 29 [Value.slice A n c] = some _ := h
  rcases open_slice Tryz.underlying29 h with ⟨hcs, _⟩ | ⟨a, len, cap, m, n', D, Pl, hcs, hb, hl, hm, hmm, hxx, hi⟩
  · have e : Value.slice A n c = .slice none 0 0 := by simpa using hcs
    injection e with _ e _
    omega
  · have e : Value.slice A n c = .slice (some a) len cap := by simpa using hcs
    injection e with _ e _
    have hle : len ≤ m := by rw [hmm]; split <;> omega
    have h1 := hsz _ _ (congrArg Prod.fst hxx)
    rw [bytesI] at h1
    simp only [List.length_map, List.length_range] at h1
    unfold reachBytes at h1
    omega

theorem trodAll_four {H : Type} {enc : TypeId × Value → H} {P : Program} {w : World} {base : Nat} {sp : Nat → Bool} {held : Bool} {t0 t1 t2 t3 : TypeId} {args : Array Value} {ds : List (DataW H)} {ps : List MemPlace} (h : DataW.TrodAll enc P w base sp held [t0, t1, t2, t3] args.toList ds ps) :
    ∃ v0 v1 v2 v3 d0 d1 d2 d3 p0 p1 p2 p3, args = #[v0, v1, v2, v3] ∧ ds = [d0, d1, d2, d3] ∧ DataW.Trod enc P w base sp held t0 v0 d0 p0 ∧ DataW.Trod enc P w base sp held t1 v1 d1 p1 ∧ DataW.Trod enc P w base sp held t2 v2 d2 p2 ∧ DataW.Trod enc P w base sp held t3 v3 d3 p3 := by
  obtain ⟨v0, vs0, d0, ds0, p0, q0, hargs, rfl, rfl, h0, r0⟩ := trodAll_cons h
  obtain ⟨v1, vs1, d1, ds1, p1, q1, rfl, rfl, rfl, h1, r1⟩ := trodAll_cons r0
  obtain ⟨v2, vs2, d2, ds2, p2, q2, rfl, rfl, rfl, h2, r2⟩ := trodAll_cons r1
  obtain ⟨v3, vs3, d3, ds3, p3, q3, rfl, rfl, rfl, h3, r3⟩ := trodAll_cons r2
  obtain ⟨rfl, rfl, rfl⟩ := trodAll_nil r3
  exact ⟨v0, v1, v2, v3, d0, d1, d2, d3, p0, p1, p2, p3, by rw [← Array.toArray_toList (xs := args), hargs], rfl, h0, h1, h2, h3⟩
theorem trodAll_five {H : Type} {enc : TypeId × Value → H} {P : Program} {w : World} {base : Nat} {sp : Nat → Bool} {held : Bool} {t0 t1 t2 t3 t4 : TypeId} {args : Array Value} {ds : List (DataW H)} {ps : List MemPlace} (h : DataW.TrodAll enc P w base sp held [t0, t1, t2, t3, t4] args.toList ds ps) :
    ∃ v0 v1 v2 v3 v4 d0 d1 d2 d3 d4 p0 p1 p2 p3 p4, args = #[v0, v1, v2, v3, v4] ∧ ds = [d0, d1, d2, d3, d4] ∧ DataW.Trod enc P w base sp held t0 v0 d0 p0 ∧ DataW.Trod enc P w base sp held t1 v1 d1 p1 ∧ DataW.Trod enc P w base sp held t2 v2 d2 p2 ∧ DataW.Trod enc P w base sp held t3 v3 d3 p3 ∧ DataW.Trod enc P w base sp held t4 v4 d4 p4 := by
  obtain ⟨v0, vs0, d0, ds0, p0, q0, hargs, rfl, rfl, h0, r0⟩ := trodAll_cons h
  obtain ⟨v1, vs1, d1, ds1, p1, q1, rfl, rfl, rfl, h1, r1⟩ := trodAll_cons r0
  obtain ⟨v2, vs2, d2, ds2, p2, q2, rfl, rfl, rfl, h2, r2⟩ := trodAll_cons r1
  obtain ⟨v3, vs3, d3, ds3, p3, q3, rfl, rfl, rfl, h3, r3⟩ := trodAll_cons r2
  obtain ⟨v4, vs4, d4, ds4, p4, q4, rfl, rfl, rfl, h4, r4⟩ := trodAll_cons r3
  obtain ⟨rfl, rfl, rfl⟩ := trodAll_nil r4
  exact ⟨v0, v1, v2, v3, v4, d0, d1, d2, d3, d4, p0, p1, p2, p3, p4, by rw [← Array.toArray_toList (xs := args), hargs], rfl, h0, h1, h2, h3, h4⟩
theorem trodAll_eight {H : Type} {enc : TypeId × Value → H} {P : Program} {w : World} {base : Nat} {sp : Nat → Bool} {held : Bool} {t0 t1 t2 t3 t4 t5 t6 t7 : TypeId} {args : Array Value} {ds : List (DataW H)} {ps : List MemPlace} (h : DataW.TrodAll enc P w base sp held [t0, t1, t2, t3, t4, t5, t6, t7] args.toList ds ps) :
    ∃ v0 v1 v2 v3 v4 v5 v6 v7 d0 d1 d2 d3 d4 d5 d6 d7 p0 p1 p2 p3 p4 p5 p6 p7, args = #[v0, v1, v2, v3, v4, v5, v6, v7] ∧ ds = [d0, d1, d2, d3, d4, d5, d6, d7] ∧ DataW.Trod enc P w base sp held t0 v0 d0 p0 ∧ DataW.Trod enc P w base sp held t1 v1 d1 p1 ∧ DataW.Trod enc P w base sp held t2 v2 d2 p2 ∧ DataW.Trod enc P w base sp held t3 v3 d3 p3 ∧ DataW.Trod enc P w base sp held t4 v4 d4 p4 ∧ DataW.Trod enc P w base sp held t5 v5 d5 p5 ∧ DataW.Trod enc P w base sp held t6 v6 d6 p6 ∧ DataW.Trod enc P w base sp held t7 v7 d7 p7 := by
  obtain ⟨v0, vs0, d0, ds0, p0, q0, hargs, rfl, rfl, h0, r0⟩ := trodAll_cons h
  obtain ⟨v1, vs1, d1, ds1, p1, q1, rfl, rfl, rfl, h1, r1⟩ := trodAll_cons r0
  obtain ⟨v2, vs2, d2, ds2, p2, q2, rfl, rfl, rfl, h2, r2⟩ := trodAll_cons r1
  obtain ⟨v3, vs3, d3, ds3, p3, q3, rfl, rfl, rfl, h3, r3⟩ := trodAll_cons r2
  obtain ⟨v4, vs4, d4, ds4, p4, q4, rfl, rfl, rfl, h4, r4⟩ := trodAll_cons r3
  obtain ⟨v5, vs5, d5, ds5, p5, q5, rfl, rfl, rfl, h5, r5⟩ := trodAll_cons r4
  obtain ⟨v6, vs6, d6, ds6, p6, q6, rfl, rfl, rfl, h6, r6⟩ := trodAll_cons r5
  obtain ⟨v7, vs7, d7, ds7, p7, q7, rfl, rfl, rfl, h7, r7⟩ := trodAll_cons r6
  obtain ⟨rfl, rfl, rfl⟩ := trodAll_nil r7
  exact ⟨v0, v1, v2, v3, v4, v5, v6, v7, d0, d1, d2, d3, d4, d5, d6, d7, p0, p1, p2, p3, p4, p5, p6, p7, by rw [← Array.toArray_toList (xs := args), hargs], rfl, h0, h1, h2, h3, h4, h5, h6, h7⟩
end Go.Proofs.YtdcppdgnekhcgaaGreatDoor
