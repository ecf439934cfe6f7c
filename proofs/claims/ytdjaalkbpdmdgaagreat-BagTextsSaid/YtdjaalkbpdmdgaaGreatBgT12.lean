/-
  Bag: a script opened; the statements that play one.
-/
import Derived.Test.YtdjaalkbpdmdgaaGreatBgT11
import Derived.Test.YtdjaalkbpdmdgaaGreatBgT9
import Derived.Test.YtdjaalkbpdmdgaaGreatBgOpen
import Derived.LaidMore
import Derived.Stop.Joined
import Derived.SizedLaws
namespace Go.Proofs.YtdjaalkbpdmdgaaGreat
open Go.ChangeShapes Go.WideShapes Go.ChangeAt Go.RowKit Go.Deep
set_option linter.unusedVariables false

theorem cellsOb : Tryz.prog.cellsOf 31 = 6 := by kernel_rfl
theorem cellsBo : Tryz.prog.cellsOf 4 = 1 := by kernel_rfl
theorem cellsU : Tryz.prog.cellsOf 29 = 1 := by kernel_rfl
theorem cellsS : Tryz.prog.cellsOf 9 = 1 := by kernel_rfl

set_option maxRecDepth 100000 in
theorem ob_row {H : Type} {enc : TypeId × Value → H} {w : World} {base : Nat} {sp : Nat → Bool} {held : Bool} {fuel : Nat} {cs : List Value} {x : DataW H × List MemPlace}
    (h : DataW.trod enc Tryz.prog w base sp held fuel 31 cs = some x) : ∃ v : Ob, cs = [.int .i64 v.k, .bool v.s, .int .i64 v.n, .int .u64 v.x, .string v.str, .int .i64 v.stop] := by
  obtain ⟨xs, n, _, _, hlen, hxl, hf⟩ := DataW.trod_struct Tryz.underlying31 h
  rw [cellsOb] at hlen
  have hxl : xs.length = 6 := hxl
  match cs, hlen with
  | [c0, c1, c2, c3, c4, c5], _ =>
    have h0 : DataW.trod enc Tryz.prog w base sp held n 3 (([c0, c1, c2, c3, c4, c5].drop 0).take (Tryz.prog.cellsOf 3)) = xs[0]? := hf 0 _ rfl
    have h1 : DataW.trod enc Tryz.prog w base sp held n 4 (([c0, c1, c2, c3, c4, c5].drop 1).take (Tryz.prog.cellsOf 4)) = xs[1]? := hf 1 _ rfl
    have h2 : DataW.trod enc Tryz.prog w base sp held n 3 (([c0, c1, c2, c3, c4, c5].drop 2).take (Tryz.prog.cellsOf 3)) = xs[2]? := hf 2 _ rfl
    have h3 : DataW.trod enc Tryz.prog w base sp held n 29 (([c0, c1, c2, c3, c4, c5].drop 3).take (Tryz.prog.cellsOf 29)) = xs[3]? := hf 3 _ rfl
    have h4 : DataW.trod enc Tryz.prog w base sp held n 9 (([c0, c1, c2, c3, c4, c5].drop 4).take (Tryz.prog.cellsOf 9)) = xs[4]? := hf 4 _ rfl
    have h5 : DataW.trod enc Tryz.prog w base sp held n 3 (([c0, c1, c2, c3, c4, c5].drop 5).take (Tryz.prog.cellsOf 3)) = xs[5]? := hf 5 _ rfl
    rw [List.getElem?_eq_getElem (by omega)] at h0 h1 h2 h3 h4 h5
    rw [cells1] at h0 h2 h5
    rw [cellsBo] at h1
    rw [cellsU] at h3
    rw [cellsS] at h4
    obtain ⟨z0, e0, _, _⟩ := DataW.trod_int Tryz.underlying3 h0
    obtain ⟨z1, e1, _⟩ := DataW.trod_bool Tryz.underlying4 h1
    obtain ⟨z2, e2, _, _⟩ := DataW.trod_int Tryz.underlying3 h2
    obtain ⟨z3, e3, _, _⟩ := DataW.trod_int Tryz.underlying29 h3
    obtain ⟨z4, e4, _, _⟩ := DataW.trod_string Tryz.underlying9 h4
    obtain ⟨z5, e5, _, _⟩ := DataW.trod_int Tryz.underlying3 h5
    have e0 : c0 = .int .i64 z0 := by simpa using e0
    have e1 : c1 = .bool z1 := by simpa using e1
    have e2 : c2 = .int .i64 z2 := by simpa using e2
    have e3 : c3 = .int .u64 z3 := by simpa using e3
    have e4 : c4 = .string z4 := by simpa using e4
    have e5 : c5 = .int .i64 z5 := by simpa using e5
    exact ⟨⟨z0, z1, z2, z3, z4, z5⟩, by rw [e0, e1, e2, e3, e4, e5]⟩

set_option maxRecDepth 100000 in
theorem open_obs {H : Type} {enc : TypeId × Value → H} {w : World} {base b0 : Nat} {sp : Nat → Bool} {held : Bool} {r : Reach} {v : Value} {d : DataW H} {p : List MemPlace}
    (hv : Value.okWide Tryz.prog w r b0 22 v) (hx : DataW.Trod enc Tryz.prog w base sp held 22 v d p) :
    ∃ A n c l, v = .slice A n c ∧ n = l.length ∧ n ≤ 9223372036854775807 ∧ RdB w A l := by
  obtain ⟨A0, n0, c0, rfl⟩ := okWide_slice Tryz.underlying22 hv
  obtain ⟨fuel, h⟩ := hx
  have h : DataW.trod enc Tryz.prog w base sp held fuel 22 [Value.slice A0 n0 c0] = some _ := h
  rcases open_slice Tryz.underlying22 h with ⟨hcs, _⟩ | ⟨a, len, cap, m, n', D, Pl, hcs, hb, hl, hm, hmm, hxx, hi⟩
  · have e : Value.slice A0 n0 c0 = .slice none 0 0 := by simpa using hcs
    rw [e]
    exact ⟨none, 0, 0, [], rfl, rfl, by omega, fun h => absurd h (by simp)⟩
  · have e : Value.slice A0 n0 c0 = .slice (some a) len cap := by simpa using hcs
    rw [e]
    have hle : len ≤ m := by rw [hmm]; split <;> omega
    have hbig : len ≤ 9223372036854775807 := by unfold maxLen at hm; omega
    have all : ∀ i, ∃ f : Ob, i < len → ∀ j v, [Value.int .i64 f.k, .bool f.s, .int .i64 f.n, .int .u64 f.x, .string f.str, .int .i64 f.stop][j]? = some v → w.cell? (a.add (i * 6 + j)) = some v := by
      intro i
      by_cases hlt : i < len
      · obtain ⟨cs', h1, h2⟩ := hi i (by omega)
        rw [cellsOb] at h1
        obtain ⟨f, hf2⟩ := ob_row h2
        obtain ⟨_, hlen, hc⟩ := World.cells?_some h1
        refine ⟨f, fun _ j v hj => ?_⟩
        have hjl : j < 6 := by
          have := (List.getElem?_eq_some_iff.1 hj).1
          simpa using this
        have := hc j hjl
        rw [hf2, hj] at this
        rw [← add_add]
        exact this
      · exact ⟨⟨0, false, 0, 0, ⟨#[]⟩, 0⟩, fun h => absurd h hlt⟩
    refine ⟨some a, len, cap, (List.range len).map (fun i => (all i).choose), rfl, by simp, hbig, fun hn => ?_⟩
    have hn' : 0 < len := by simpa using hn
    have h0 := (all 0).choose_spec hn' 0 _ rfl
    have ha : a.add (0 * 6 + 0) = a := by simp [Addr.add]
    rw [ha] at h0
    obtain ⟨bb, o, spot⟩ := a
    have hs : spot = none := by
      cases spot with
      | none => rfl
      | some s =>
        unfold World.cell? at h0
        split at h0 <;> simp at h0
    subst hs
    refine ⟨bb, o, rfl, block_lt_of_cell h0, fun k v hv => ?_⟩
    have hk : k < len := by
      have := (List.getElem?_eq_some_iff.1 hv).1
      simpa using this
    have hv' : v = (all k).choose := by
      rw [List.getElem?_map, List.getElem?_range hk] at hv
      exact (Option.some.inj hv).symm
    have hc := (all k).choose_spec hk
    rw [← hv'] at hc
    have e : ∀ j, (⟨bb, o, none⟩ : Addr).add (k * 6 + j) = ⟨bb, o + k * 6 + j, none⟩ := fun j => by rw [Addr.add_mid, Nat.add_assoc]
    refine ⟨?_, ?_, ?_, ?_, ?_, ?_⟩
    · have := hc 0 _ rfl; rw [e] at this; exact this
    · have := hc 1 _ rfl; rw [e] at this; exact this
    · have := hc 2 _ rfl; rw [e] at this; exact this
    · have := hc 3 _ rfl; rw [e] at this; exact this
    · have := hc 4 _ rfl; rw [e] at this; exact this
    · have := hc 5 _ rfl; rw [e] at this; exact this

theorem stacks_st (one two : Int) (A : Option Addr) (n c : Nat) (l : List Ob) (w : World) (hn : n = l.length) (hnn : n ≤ 9223372036854775807) (hr : RdB w A l) :
    Calls Tryz.prog 3 #[.int .i64 one, .int .i64 two, .slice A n c] w fun e w' => e = .returned (.bool true) ∧ Fr [] w w' := by
  have H := Lib.hid (run_any w one two 1 4 (fun i => if i = 0 then one else two) A n c l hn hnn hr (begin_any w one two _ rfl rfl) (fun gd gm w' h => run_stack h))
  clear hn hr
  go_enter Tryz.func3, Tryz.ntmps3
  go_wp2_with fail
  refine (Calls.mono H.out ?_)
  rintro e w' ⟨rfl, hf⟩
  have HF := Lib.hid hf
  clear hf
  go_wp2_with fail
  go_ret
  exact ⟨rfl, HF.out⟩
end Go.Proofs.YtdjaalkbpdmdgaaGreat
