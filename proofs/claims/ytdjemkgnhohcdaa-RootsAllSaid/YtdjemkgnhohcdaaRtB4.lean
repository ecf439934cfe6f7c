/-
  Roots: a script opened, with what it answers Update.
-/
import Derived.Test.YtdjemkgnhohcdaaRtB3
import Derived.Test.YtdjemkgnhohcdaaRtOpen
namespace Go.Proofs.Ytdjemkgnhohcdaa
open Go.ChangeShapes Go.WideShapes Go.ChangeAt Go.RowKit Go.Deep
set_option linter.unusedVariables false

theorem rd_of_ints {H : Type} {enc : TypeId × Value → H} {w : World} {base : Nat} {sp : Nat → Bool} {held : Bool} {fuel : Nat} {A : Option Addr} {n c : Nat} {x : DataW H × List MemPlace}
    (hf : DataW.trod enc Try.prog w base sp held fuel 31 [.slice A n c] = some x) : ∃ l : List Int, n = l.length ∧ RdI w A l := by
  rcases open_ints Try.underlying31 Try.underlying3 cells1 hf with ⟨hcs, _⟩ | ⟨a, len, cap, zs, hcs, hb, hl, hm, hmm, _, hi, hw⟩
  · have hcs' : Value.slice A n c = .slice none 0 0 := by simpa [Value.cells] using hcs
    injection hcs' with e1 e2 e3
    subst e1 e2 e3
    exact ⟨[], rfl, RdI.nil _ _⟩
  · have hcs' : Value.slice A n c = .slice (some a) len cap := by simpa [Value.cells] using hcs
    injection hcs' with e1 e2 e3
    subst e1 e2 e3
    have hle : n ≤ zs.length := by rw [hmm]; split <;> omega
    have hln : (zs.take n).length = n := by rw [List.length_take]; omega
    refine ⟨zs.take n, hln.symm, by rw [hln]; unfold maxLen at hm; omega, fun hn => ?_⟩
    rw [hln] at hn
    have h0 := hi 0 (by omega)
    have ha : a.add 0 = a := by simp [Addr.add]
    rw [ha] at h0
    obtain ⟨bb, o, spot⟩ := a
    have hs : spot = none := by
      cases spot with
      | none => rfl
      | some s =>
        unfold World.cell? at h0
        split at h0 <;> simp at h0
    subst hs
    refine ⟨bb, o, rfl, block_lt_of_cell h0, fun i x hx => ?_⟩
    rw [List.getElem?_take] at hx
    split at hx
    · have hiz : i < zs.length := (List.getElem?_eq_some_iff.1 hx).1
      have h1 := hi i hiz
      rw [show (⟨bb, o, none⟩ : Addr).add i = ⟨bb, o + i, none⟩ from by unfold Addr.add; split <;> simp_all, show zs.getD i 0 = x from by rw [List.getD_eq_getElem?_getD, hx]; rfl] at h1
      exact h1
    · cases hx
theorem op_to {H : Type} {enc : TypeId × Value → H} {w : World} {base : Nat} {sp : Nat → Bool} {held : Bool} {fuel : Nat} {cs : List Value} {x : DataW H × List MemPlace} {v : Oq}
    (h : DataW.trod enc Try.prog w base sp held fuel 48 cs = some x) (hv : cs = [.int .i64 v.k, .int .i64 v.t, .int .i64 v.n, .int .i64 v.a, .bool v.s, .slice v.la v.ln v.lc]) : inI v.n ∧ ∃ l : List Int, v.ln = l.length ∧ RdI w v.la l := by
  subst hv
  obtain ⟨xs, n, _, _, hlen, hxl, hf⟩ := DataW.trod_struct Try.underlying48 h
  have hxl : xs.length = 6 := hxl
  have h2 : DataW.trod enc Try.prog w base sp held n 3 (([Value.int .i64 v.k, .int .i64 v.t, .int .i64 v.n, .int .i64 v.a, .bool v.s, .slice v.la v.ln v.lc].drop 2).take (Try.prog.cellsOf 3)) = xs[2]? := hf 2 _ rfl
  have h5 : DataW.trod enc Try.prog w base sp held n 31 (([Value.int .i64 v.k, .int .i64 v.t, .int .i64 v.n, .int .i64 v.a, .bool v.s, .slice v.la v.ln v.lc].drop 5).take (Try.prog.cellsOf 31)) = xs[5]? := hf 5 _ rfl
  rw [List.getElem?_eq_getElem (by omega)] at h2 h5
  rw [cells1] at h2
  rw [cellsL] at h5
  obtain ⟨z2, e2, _, w2⟩ := DataW.trod_int Try.underlying3 h2
  have e2 : v.n = z2 := by simpa using e2
  refine ⟨by rw [e2]; exact inI_of w2, rd_of_ints h5⟩

theorem open_ops2 {H : Type} {enc : TypeId × Value → H} {w : World} {base b0 : Nat} {sp : Nat → Bool} {held : Bool} {r : Reach} {v : Value} {d : DataW H} {p : List MemPlace}
    (hv : Value.okWide Try.prog w r b0 36 v) (hx : DataW.Trod enc Try.prog w base sp held 36 v d p) (hsz : ∀ elems spare, d = .slice elems spare → (elems.length + spare.length) * Try.prog.bytesOf 48 ≤ reachBytes) :
    ∃ A n c l, v = .slice A n c ∧ n = l.length ∧ RdO w A l ∧ ∀ o ∈ l, inI o.n ∧ ∃ t : List Int, o.ln = t.length ∧ RdI w o.la t := by
  obtain ⟨A0, n0, c0, rfl⟩ := okWide_slice Try.underlying36 hv
  obtain ⟨fuel, h⟩ := hx
  have h : DataW.trod enc Try.prog w base sp held fuel 36 [Value.slice A0 n0 c0] = some _ := h
  rcases open_slice Try.underlying36 h with ⟨hcs, _⟩ | ⟨a, len, cap, m, n', D, Pl, hcs, hb, hl, hm, hmm, hxx, hi⟩
  · have e : Value.slice A0 n0 c0 = .slice none 0 0 := by simpa using hcs
    rw [e]
    exact ⟨none, 0, 0, [], rfl, rfl, ⟨by simp, fun h => absurd h (by simp)⟩, by simp⟩
  · have e : Value.slice A0 n0 c0 = .slice (some a) len cap := by simpa using hcs
    rw [e]
    have hle : len ≤ m := by rw [hmm]; split <;> omega
    have hbig : len ≤ 2200000000000 := by
      have h1 := hsz _ _ (congrArg Prod.fst hxx)
      rw [bytesOp] at h1
      simp only [List.length_map, List.length_range] at h1
      unfold reachBytes at h1
      omega
    have all : ∀ i, ∃ f : Oq, i < len → (inI f.n ∧ ∃ t : List Int, f.ln = t.length ∧ RdI w f.la t) ∧ ∀ j v, [Value.int .i64 f.k, .int .i64 f.t, .int .i64 f.n, .int .i64 f.a, .bool f.s, .slice f.la f.ln f.lc][j]? = some v → w.cell? (a.add (i * 6 + j)) = some v := by
      intro i
      by_cases hlt : i < len
      · obtain ⟨cs', h1, h2⟩ := hi i (by omega)
        rw [cellsOp] at h1
        obtain ⟨f, hf2⟩ := op_row h2
        obtain ⟨_, hlen, hc⟩ := World.cells?_some h1
        refine ⟨f, fun _ => ⟨op_to h2 hf2, fun j v hj => ?_⟩⟩
        have hjl : j < 6 := by
          have := (List.getElem?_eq_some_iff.1 hj).1
          simpa using this
        have := hc j hjl
        rw [hf2, hj] at this
        rw [← add_add]
        exact this
      · exact ⟨⟨0, 0, 0, 0, false, none, 0, 0⟩, fun h => absurd h hlt⟩
    have hto : ∀ o ∈ (List.range len).map (fun i => (all i).choose), inI o.n ∧ ∃ t : List Int, o.ln = t.length ∧ RdI w o.la t := fun o ho => by
      obtain ⟨i, hi, rfl⟩ := List.mem_map.1 ho
      exact ((all i).choose_spec (by simpa using hi)).1
    refine ⟨some a, len, cap, (List.range len).map (fun i => (all i).choose), rfl, by simp, ⟨by simpa using hbig, fun hn => ?_⟩, hto⟩
    have hn' : 0 < len := by simpa using hn
    have h0 := ((all 0).choose_spec hn').2 0 _ rfl
    have ha : a.add (0 * 6 + 0) = a := by simp [Addr.add]
    rw [ha] at h0
    obtain ⟨bb, o, spot⟩ := a
    have hs : spot = none := by
      cases spot with
      | none => rfl
      | some s =>
        unfold World.cell? at h0
        split at h0 <;> simp at h0
    subst hs
    refine ⟨bb, o, rfl, block_lt_of_cell h0, fun k v hv => ?_⟩
    have hk : k < len := by
      have := (List.getElem?_eq_some_iff.1 hv).1
      simpa using this
    have hv' : v = (all k).choose := by
      rw [List.getElem?_map, List.getElem?_range hk] at hv
      exact (Option.some.inj hv).symm
    have hc := ((all k).choose_spec hk).2
    rw [← hv'] at hc
    have e : ∀ j, (⟨bb, o, none⟩ : Addr).add (k * 6 + j) = ⟨bb, o + k * 6 + j, none⟩ := fun j => by rw [Addr.add_mid, Nat.add_assoc]
    refine ⟨?_, ?_, ?_, ?_, ?_, ?_⟩
    · have := hc 0 _ rfl; rw [e] at this; exact this
    · have := hc 1 _ rfl; rw [e] at this; exact this
    · have := hc 2 _ rfl; rw [e] at this; exact this
    · have := hc 3 _ rfl; rw [e] at this; exact this
    · have := hc 4 _ rfl; rw [e] at this; exact this
    · have := hc 5 _ rfl; rw [e] at this; exact this

theorem trodAll_four {H : Type} {enc : TypeId × Value → H} {P : Program} {w : World} {base : Nat} {sp : Nat → Bool} {held : Bool} {t0 t1 t2 t3 : TypeId} {args : Array Value} {ds : List (DataW H)} {ps : List MemPlace} (h : DataW.TrodAll enc P w base sp held [t0, t1, t2, t3] args.toList ds ps) :
    ∃ v0 v1 v2 v3 d0 d1 d2 d3 p0 p1 p2 p3, args = #[v0, v1, v2, v3] ∧ ds = [d0, d1, d2, d3] ∧ DataW.Trod enc P w base sp held t0 v0 d0 p0 ∧ DataW.Trod enc P w base sp held t1 v1 d1 p1 ∧ DataW.Trod enc P w base sp held t2 v2 d2 p2 ∧ DataW.Trod enc P w base sp held t3 v3 d3 p3 := by
  obtain ⟨v0, vs0, d0, ds0, p0, q0, hargs, rfl, rfl, h0, r0⟩ := trodAll_cons h
  obtain ⟨v1, vs1, d1, ds1, p1, q1, rfl, rfl, rfl, h1, r1⟩ := trodAll_cons r0
  obtain ⟨v2, vs2, d2, ds2, p2, q2, rfl, rfl, rfl, h2, r2⟩ := trodAll_cons r1
  obtain ⟨v3, vs3, d3, ds3, p3, q3, rfl, rfl, rfl, h3, r3⟩ := trodAll_cons r2
  obtain ⟨rfl, rfl, rfl⟩ := trodAll_nil r3
  exact ⟨v0, v1, v2, v3, d0, d1, d2, d3, p0, p1, p2, p3, by rw [← Array.toArray_toList (xs := args), hargs], rfl, h0, h1, h2, h3⟩
end Go.Proofs.Ytdjemkgnhohcdaa
