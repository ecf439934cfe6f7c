/-
  Marks: the five statements over 'play'; the script opened.
-/
import Derived.Test.YtheiacfdbhjbmaaDoorMkDk7
import Derived.Test.YtheiacfdbhjbmaaDoorMkOpen
import Derived.Test.YtheiacfdbhjbmaaDoorLawT
import Derived.Deep.Slices
import Derived.Deep.Fields
import Derived.ChangeArms
import Derived.Deep.MidRow
import Derived.DataShut
namespace Go.Proofs.YtheiacfdbhjbmaaDoor
open Go.ChangeShapes Go.WideShapes Go.ChangeAt Go.RowKit Go.Deep Go.Shelf Mk
set_option linter.unusedVariables false

theorem sets_any (words : Int) (A : Option Addr) (n cp : Nat) (l : List Oq) (w : World) (hn : n = l.length) (hr : RdO w A l) (hO : On w) :
    Calls Tryd.prog 7 #[.int .i64 words, .slice A n cp] w (PlayEnd w) := by
  have H := Lib.hid (fun lo hi => play_any words A n cp l lo hi w hn hr hO)
  clear hn hr hO
  go_enter Tryd.func7, Tryd.ntmps7
  go_wp2_with fail
  refine (Calls.mono (H.out _ _) ?_)
  rintro e w1 ⟨rfl, hf⟩
  go_wp2_with fail
  go_ret
  exact ⟨rfl, hf⟩
theorem runs_st (words : Int) (A : Option Addr) (n cp : Nat) (l : List Oq) (w : World) (hn : n = l.length) (hr : RdO w A l) (hO : On w) :
    Calls Tryd.prog 9 #[.int .i64 words, .slice A n cp] w (PlayEnd w) := by
  have H := Lib.hid (fun lo hi => play_any words A n cp l lo hi w hn hr hO)
  clear hn hr hO
  go_enter Tryd.func9, Tryd.ntmps9
  go_wp2_with fail
  refine (Calls.mono (H.out _ _) ?_)
  rintro e w1 ⟨rfl, hf⟩
  go_wp2_with fail
  go_ret
  exact ⟨rfl, hf⟩
theorem slides_st (words : Int) (A : Option Addr) (n cp : Nat) (l : List Oq) (w : World) (hn : n = l.length) (hr : RdO w A l) (hO : On w) :
    Calls Tryd.prog 10 #[.int .i64 words, .slice A n cp] w (PlayEnd w) := by
  have H := Lib.hid (fun lo hi => play_any words A n cp l lo hi w hn hr hO)
  clear hn hr hO
  go_enter Tryd.func10, Tryd.ntmps10
  go_wp2_with fail
  refine (Calls.mono (H.out _ _) ?_)
  rintro e w1 ⟨rfl, hf⟩
  go_wp2_with fail
  go_ret
  exact ⟨rfl, hf⟩
theorem plays_st (words : Int) (A : Option Addr) (n cp : Nat) (l : List Oq) (w : World) (hn : n = l.length) (hr : RdO w A l) (hO : On w) :
    Calls Tryd.prog 11 #[.int .i64 words, .slice A n cp] w (PlayEnd w) := by
  have H := Lib.hid (fun lo hi => play_any words A n cp l lo hi w hn hr hO)
  clear hn hr hO
  go_enter Tryd.func11, Tryd.ntmps11
  go_wp2_with fail
  refine (Calls.mono (H.out _ _) ?_)
  rintro e w1 ⟨rfl, hf⟩
  go_wp2_with fail
  go_ret
  exact ⟨rfl, hf⟩
theorem asks_any (words : Int) (A : Option Addr) (n cp : Nat) (l : List Oq) (w : World) (hn : n = l.length) (hr : RdO w A l) (hO : On w) :
    Calls Tryd.prog 8 #[.int .i64 words, .slice A n cp] w (PlayEnd w) := by
  have H := Lib.hid (fun lo hi => play_any words A n cp l lo hi w hn hr hO)
  have H2 : Hid (∀ lo hi w1, Fr [] w w1 → Calls Tryd.prog 30 #[.int .i64 words, .slice A n cp, .int .i64 lo, .int .i64 hi] w1 (PlayEnd w1)) :=
    fun lo hi w1 hf => play_any words A n cp l lo hi w1 hn (hr.fr hf) (hO.fr hf (by simp))
  clear hn hr hO
  go_enter Tryd.func8, Tryd.ntmps8
  go_wp2_with fail
  refine (Calls.mono (H.out _ _) ?_)
  rintro e w1 ⟨rfl, hf⟩
  have HF := Lib.hid hf
  clear hf
  go_wp2_with fail
  refine (Calls.mono (H2.out _ _ w1 HF.out) ?_)
  rintro e w2 ⟨rfl, hf⟩
  have HF2 := Lib.hid (HF.out.trans hf (by simp))
  clear hf
  go_wp2_with fail
  go_ret
  exact ⟨rfl, HF2.out⟩

/-! ### the script opened -/
def intFields (I : TypeId) (fs : Array Field) : Bool := (List.range fs.size).all fun i => match fs[i]? with
  | some f => f.offset == i && f.type == I
  | none => false

theorem struct_ints {H : Type} {enc : TypeId × Value → H} {P : Program} {w : World} {base : Nat} {sp : Nat → Bool} {held : Bool} {fuel : Nat} {cs : List Value} {x : DataW H × List MemPlace} {t I : TypeId} {fs : Array Field}
    (hI : P.underlying I = some (.int .i64)) (hI1 : P.cellsOf I = 1) (ht : P.underlying t = some (.struct fs)) (hC : P.cellsOf t = fs.size) (hall : intFields I fs = true)
    (h : DataW.trod enc P w base sp held fuel t cs = some x) : cs.length = fs.size ∧ ∃ f : Nat → Int, ∀ i, i < fs.size → cs[i]? = some (.int .i64 (f i)) ∧ (Lit.int .i64 (f i)).wf = true := by
  obtain ⟨xs, n, _, _, hlen, hxl, hf⟩ := DataW.trod_struct ht h
  rw [hC] at hlen
  refine ⟨hlen, ?_⟩
  have one : ∀ i, ∃ z, i < fs.size → cs[i]? = some (.int .i64 z) ∧ (Lit.int .i64 z).wf = true := by
    intro i
    by_cases hlt : i < fs.size
    · have hfi : fs[i]? = some (fs[i]'hlt) := Array.getElem?_eq_getElem hlt
      have h2 := List.all_eq_true.1 hall i (List.mem_range.2 hlt)
      rw [hfi] at h2
      simp only [Bool.and_eq_true, beq_iff_eq] at h2
      have h1 := hf i _ hfi
      rw [h2.1, h2.2, hI1, List.getElem?_eq_getElem (by omega)] at h1
      obtain ⟨z, hz, _, hw⟩ := DataW.trod_int hI h1
      have hd : (cs.drop i).take 1 = [cs[i]'(by omega)] := by
        rw [List.drop_eq_getElem_cons (by omega)]
        rfl
      rw [hd] at hz
      have : cs[i]'(by omega) = .int .i64 z := by simpa using hz
      exact ⟨z, fun _ => ⟨by rw [List.getElem?_eq_getElem (by omega), this], hw⟩⟩
    · exact ⟨0, fun h => absurd h hlt⟩
  exact ⟨fun i => (one i).choose, fun i hi => (one i).choose_spec hi⟩

theorem cellsOp : Tryd.prog.cellsOf 72 = 4 := by kernel_rfl
theorem inI_of {x : Int} (h : (Lit.int .i64 x).wf = true) : inI x := by
  have := (Lit.wf_int_iff .i64 x).1 h
  have e1 : IntKind.i64.max = 9223372036854775807 := rfl
  have e2 : IntKind.i64.min = -9223372036854775808 := rfl
  rw [e1, e2] at this
  exact this

theorem op_row {H : Type} {enc : TypeId × Value → H} {w : World} {base : Nat} {sp : Nat → Bool} {held : Bool} {fuel : Nat} {cs : List Value} {x : DataW H × List MemPlace}
    (h : DataW.trod enc Tryd.prog w base sp held fuel 72 cs = some x) : ∃ v : Oq, cs = [.int .i64 v.k, .int .i64 v.a, .int .i64 v.b, .int .i64 v.c] ∧ v.wf := by
  obtain ⟨hlen, f, hf⟩ := struct_ints (I := 3) Tryd.underlying3 cells1 Tryd.underlying72 cellsOp (by kernel_rfl) h
  have hlen' : cs.length = 4 := hlen
  refine ⟨⟨f 0, f 1, f 2, f 3⟩, ?_, inI_of (hf 0 (by decide)).2, inI_of (hf 1 (by decide)).2, inI_of (hf 2 (by decide)).2, inI_of (hf 3 (by decide)).2⟩
  have h0 := (hf 0 (by decide)).1
  have h1 := (hf 1 (by decide)).1
  have h2 := (hf 2 (by decide)).1
  have h3 := (hf 3 (by decide)).1
  match cs, hlen', h0, h1, h2, h3 with
  | [a, b, c, d], _, h0, h1, h2, h3 =>
    have e0 : a = _ := Option.some.inj h0
    have e1 : b = _ := Option.some.inj h1
    have e2 : c = _ := Option.some.inj h2
    have e3 : d = _ := Option.some.inj h3
    rw [e0, e1, e2, e3]

theorem open_ops {H : Type} {enc : TypeId × Value → H} {w : World} {base b0 : Nat} {sp : Nat → Bool} {held : Bool} {r : Reach} {v : Value} {d : DataW H} {p : List MemPlace}
    (hv : Value.okWide Tryd.prog w r b0 48 v) (hx : DataW.Trod enc Tryd.prog w base sp held 48 v d p) : ∃ A n c l, v = .slice A n c ∧ n = l.length ∧ RdO w A l := by
  obtain ⟨A0, n0, c0, rfl⟩ := okWide_slice Tryd.underlying48 hv
  obtain ⟨fuel, h⟩ := hx
  have h : DataW.trod enc Tryd.prog w base sp held fuel 48 [Value.slice A0 n0 c0] = some _ := h
  rcases open_slice Tryd.underlying48 h with ⟨hcs, _⟩ | ⟨a, len, cap, m, n', D, Pl, hcs, hb, hl, hm, hmm, _, hi⟩
  · have e : Value.slice A0 n0 c0 = .slice none 0 0 := by simpa using hcs
    rw [e]
    exact ⟨none, 0, 0, [], rfl, rfl, by simp, by simp, fun h => absurd h (by simp)⟩
  · have e : Value.slice A0 n0 c0 = .slice (some a) len cap := by simpa using hcs
    rw [e]
    have hle : len ≤ m := by rw [hmm]; split <;> omega
    have all : ∀ i, ∃ f : Oq, i < len → f.wf ∧ ∀ j v, [Value.int .i64 f.k, Value.int .i64 f.a, Value.int .i64 f.b, Value.int .i64 f.c][j]? = some v → w.cell? (a.add (i * 4 + j)) = some v := by
      intro i
      by_cases hlt : i < len
      · obtain ⟨cs', h1, h2⟩ := hi i (by omega)
        rw [cellsOp] at h1
        obtain ⟨f, hf2, hwf⟩ := op_row h2
        obtain ⟨_, hlen, hc⟩ := World.cells?_some h1
        refine ⟨f, fun _ => ⟨hwf, fun j v hj => ?_⟩⟩
        have hjl : j < 4 := by
          have := (List.getElem?_eq_some_iff.1 hj).1
          simpa using this
        have := hc j hjl
        rw [hf2, hj] at this
        rw [← add_add]
        exact this
      · exact ⟨⟨0, 0, 0, 0⟩, fun h => absurd h hlt⟩
    refine ⟨some a, len, cap, (List.range len).map (fun i => (all i).choose), rfl, by simp, by simp; unfold maxLen at hm; omega, fun o ho => ?_, fun hn => ?_⟩
    · obtain ⟨i, hi1, rfl⟩ := List.mem_map.1 ho
      exact ((all i).choose_spec (List.mem_range.1 hi1)).1
    have hn' : 0 < len := by simpa using hn
    have h0 := ((all 0).choose_spec hn').2 0 _ rfl
    have ha : a.add (0 * 4 + 0) = a := by simp [Addr.add]
    rw [ha] at h0
    obtain ⟨bb, o, spot⟩ := a
    have hs : spot = none := by
      cases spot with
      | none => rfl
      | some s =>
        unfold World.cell? at h0
        split at h0 <;> simp at h0
    subst hs
    refine ⟨bb, o, rfl, block_lt_of_cell h0, fun k v hv => ?_⟩
    have hk : k < len := by
      have := (List.getElem?_eq_some_iff.1 hv).1
      simpa using this
    have hv' : v = (all k).choose := by
      rw [List.getElem?_map, List.getElem?_range hk] at hv
      exact (Option.some.inj hv).symm
    have hc := ((all k).choose_spec hk).2
    rw [← hv'] at hc
    have e : ∀ j, (⟨bb, o, none⟩ : Addr).add (k * 4 + j) = ⟨bb, o + k * 4 + j, none⟩ := fun j => by rw [Addr.add_mid, Nat.add_assoc]
    refine ⟨?_, ?_, ?_, ?_⟩
    · have := hc 0 _ rfl; rw [e] at this; exact this
    · have := hc 1 _ rfl; rw [e] at this; exact this
    · have := hc 2 _ rfl; rw [e] at this; exact this
    · have := hc 3 _ rfl; rw [e] at this; exact this
end Go.Proofs.YtheiacfdbhjbmaaDoor
