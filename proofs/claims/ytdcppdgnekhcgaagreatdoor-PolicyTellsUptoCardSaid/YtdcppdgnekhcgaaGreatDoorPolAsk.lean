/-
  The argument 'Ask', opened: a configuration, three numbers, a slice of views.
-/
import Derived.Test.YtdcppdgnekhcgaaGreatDoorPolOpen
import Derived.Test.YtdcppdgnekhcgaaGreatDoorPolPlain
import Derived.Deep.MidRow
import Derived.DataShut
namespace Go.Proofs.YtdcppdgnekhcgaaGreatDoor
open Go.ChangeShapes Go.WideShapes Go.ChangeAt Go.RowKit Go.Deep Pol
set_option maxRecDepth 100000

def askA (c : Nat → Int) (base kind words : Int) (sv : Value) : Array Value := #[.int .i64 (c 0), .int .i64 (c 1), .int .i64 (c 2), .int .i64 (c 3), .int .i64 (c 4), .int .i64 (c 5), .int .i64 (c 6), .int .i64 (c 7), .int .i64 (c 8), .int .i64 (c 9), .int .i64 (c 10), .int .i64 (c 11), .int .i64 (c 12), .int .i64 (c 13), .int .i64 base, .int .i64 kind, .int .i64 words, sv]

/-- From this address on lie these views. -/
def RdVw (w : World) (A : Option Addr) (l : List Vw) : Prop :=
  l.length ≤ 9223372036854775807 ∧ (0 < l.length → ∃ b o, A = some ⟨b, o, none⟩ ∧ b < w.heap.size ∧ ∀ (k : Nat) (v : Vw), l[k]? = some v →
    w.cell? ⟨b, o + k * 4, none⟩ = some (.int .i64 v.eden) ∧ w.cell? ⟨b, o + k * 4 + 1, none⟩ = some (.int .i64 v.young) ∧ w.cell? ⟨b, o + k * 4 + 2, none⟩ = some (.int .i64 v.ten) ∧ w.cell? ⟨b, o + k * 4 + 3, none⟩ = some (.int .i64 v.room))

theorem RdVw.fr {w w' : World} {A : Option Addr} {l : List Vw} (h : RdVw w A l) (hf : Fr [] w w') : RdVw w' A l :=
  ⟨h.1, fun hn => by
    obtain ⟨b, o, rfl, hb, hr⟩ := h.2 hn
    have e : ∀ x, w'.cell? ⟨b, x, none⟩ = w.cell? ⟨b, x, none⟩ := fun x => World.cell?_of_block (hf.block b hb (by simp))
    exact ⟨b, o, rfl, Nat.lt_of_lt_of_le hb hf.size, fun k v hv => by simp only [e]; exact hr k v hv⟩⟩

theorem cellsView : Tryz.prog.cellsOf 67 = 4 := by kernel_rfl
theorem cellsAsk : Tryz.prog.cellsOf 26 = 18 := by kernel_rfl
theorem cellsViews : Tryz.prog.cellsOf 24 = 1 := by kernel_rfl

theorem view_row {H : Type} {enc : TypeId × Value → H} {w : World} {base : Nat} {sp : Nat → Bool} {held : Bool} {fuel : Nat} {cs : List Value} {x : DataW H × List MemPlace}
    (h : DataW.trod enc Tryz.prog w base sp held fuel 67 cs = some x) : ∃ v : Vw, cs = [.int .i64 v.eden, .int .i64 v.young, .int .i64 v.ten, .int .i64 v.room] := by
  obtain ⟨hlen, f, hf⟩ := struct_ints (I := 3) Tryz.underlying3 cellsInt Tryz.underlying67 cellsView (by kernel_rfl) h
  have hlen' : cs.length = 4 := hlen
  refine ⟨⟨f 0, f 1, f 2, f 3⟩, ?_⟩
  have h0 := (hf 0 (by decide)).1
  have h1 := (hf 1 (by decide)).1
  have h2 := (hf 2 (by decide)).1
  have h3 := (hf 3 (by decide)).1
  match cs, hlen', h0, h1, h2, h3 with
  | [a, b, c, d], _, h0, h1, h2, h3 =>
    have e0 : a = _ := Option.some.inj h0
    have e1 : b = _ := Option.some.inj h1
    have e2 : c = _ := Option.some.inj h2
    have e3 : d = _ := Option.some.inj h3
    rw [e0, e1, e2, e3]

theorem open_views {H : Type} {enc : TypeId × Value → H} {w : World} {base : Nat} {sp : Nat → Bool} {held : Bool} {fuel : Nat} {v : Value} {x : DataW H × List MemPlace}
    (h : DataW.trod enc Tryz.prog w base sp held fuel 24 [v] = some x) : ∃ A n c l, v = .slice A n c ∧ n = l.length ∧ RdVw w A l := by
  rcases open_slice Tryz.underlying24 h with ⟨hcs, _⟩ | ⟨a, len, cap, m, n', D, Pl, hcs, hb, hl, hm, hmm, _, hi⟩
  · obtain rfl : v = .slice none 0 0 := by simpa using hcs
    exact ⟨none, 0, 0, [], rfl, rfl, by simp, fun h => absurd h (by simp)⟩
  · obtain rfl : v = .slice (some a) len cap := by simpa using hcs
    have hle : len ≤ m := by rw [hmm]; split <;> omega
    have all : ∀ i, ∃ f : Vw, i < len → ∀ j v, [Value.int .i64 f.eden, Value.int .i64 f.young, Value.int .i64 f.ten, Value.int .i64 f.room][j]? = some v → w.cell? (a.add (i * 4 + j)) = some v := by
      intro i
      by_cases hlt : i < len
      · obtain ⟨cs', h1, h2⟩ := hi i (by omega)
        rw [cellsView] at h1
        obtain ⟨f, hf2⟩ := view_row h2
        obtain ⟨_, hlen, hc⟩ := World.cells?_some h1
        refine ⟨f, fun _ j v hj => ?_⟩
        have hjl : j < 4 := by
          have := (List.getElem?_eq_some_iff.1 hj).1
          simpa using this
        have := hc j hjl
        rw [hf2, hj] at this
        rw [← add_add]
        exact this
      · exact ⟨⟨0, 0, 0, 0⟩, fun h => absurd h hlt⟩
    refine ⟨some a, len, cap, (List.range len).map (fun i => (all i).choose), rfl, by simp, by simp; unfold maxLen at hm; omega, fun hn => ?_⟩
    have hn' : 0 < len := by simpa using hn
    have h0 := (all 0).choose_spec hn' 0 _ rfl
    have ha : a.add (0 * 4 + 0) = a := by simp [Addr.add]
    rw [ha] at h0
    obtain ⟨bb, o, spot⟩ := a
    have hs : spot = none := by
      cases spot with
      | none => rfl
      | some s =>
        unfold World.cell? at h0
        split at h0 <;> simp at h0
    subst hs
    refine ⟨bb, o, rfl, block_lt_of_cell h0, fun k v hv => ?_⟩
    have hk : k < len := by
      have := (List.getElem?_eq_some_iff.1 hv).1
      simpa using this
    have hv' : v = (all k).choose := by
      rw [List.getElem?_map, List.getElem?_range hk] at hv
      exact (Option.some.inj hv).symm
    have hc := (all k).choose_spec hk
    rw [← hv'] at hc
    have e : ∀ j, (⟨bb, o, none⟩ : Addr).add (k * 4 + j) = ⟨bb, o + k * 4 + j, none⟩ := fun j => by rw [Addr.add_mid, Nat.add_assoc]
    refine ⟨?_, ?_, ?_, ?_⟩
    · have := hc 0 _ rfl; rw [e] at this; exact this
    · have := hc 1 _ rfl; rw [e] at this; exact this
    · have := hc 2 _ rfl; rw [e] at this; exact this
    · have := hc 3 _ rfl; rw [e] at this; exact this

theorem open_ask {H : Type} {enc : TypeId × Value → H} {w : World} {base b0 : Nat} {sp : Nat → Bool} {held : Bool} {r : Reach} {v : Value} {d : DataW H} {p : List MemPlace}
    (hv : Value.okWide Tryz.prog w r b0 26 v) (h : DataW.Trod enc Tryz.prog w base sp held 26 v d p) :
    ∃ c bs kind words A n cap l, v = .agg (askA c bs kind words (.slice A n cap)) ∧ n = l.length ∧ RdVw w A l ∧ words ≤ 9223372036854775807 := by
  obtain ⟨cs, rfl, _⟩ := okWide_struct Tryz.underlying26 hv
  obtain ⟨fuel, hf⟩ := h
  obtain ⟨xs, n, _, _, hlen, hxl, hfld⟩ := DataW.trod_struct Tryz.underlying26 (show DataW.trod enc Tryz.prog w base sp held fuel 26 cs.toList = _ from hf)
  rw [cellsAsk] at hlen
  have hx5 : xs.length = 5 := hxl
  have g : ∀ i, i < 5 → ∃ y, xs[i]? = some y := fun i hi => ⟨_, List.getElem?_eq_getElem (by omega)⟩
  obtain ⟨y0, hy0⟩ := g 0 (by omega)
  obtain ⟨y1, hy1⟩ := g 1 (by omega)
  obtain ⟨y2, hy2⟩ := g 2 (by omega)
  obtain ⟨y3, hy3⟩ := g 3 (by omega)
  obtain ⟨y4, hy4⟩ := g 4 (by omega)
  have f0 : DataW.trod enc Tryz.prog w base sp held n 23 ((cs.toList.drop 0).take (Tryz.prog.cellsOf 23)) = some y0 := (hfld 0 _ rfl).trans hy0
  have f1 : DataW.trod enc Tryz.prog w base sp held n 3 ((cs.toList.drop 14).take (Tryz.prog.cellsOf 3)) = some y1 := (hfld 1 _ rfl).trans hy1
  have f2 : DataW.trod enc Tryz.prog w base sp held n 3 ((cs.toList.drop 15).take (Tryz.prog.cellsOf 3)) = some y2 := (hfld 2 _ rfl).trans hy2
  have f3 : DataW.trod enc Tryz.prog w base sp held n 3 ((cs.toList.drop 16).take (Tryz.prog.cellsOf 3)) = some y3 := (hfld 3 _ rfl).trans hy3
  have f4 : DataW.trod enc Tryz.prog w base sp held n 24 ((cs.toList.drop 17).take (Tryz.prog.cellsOf 24)) = some y4 := (hfld 4 _ rfl).trans hy4
  rw [cellsCfg] at f0
  rw [cellsInt] at f1 f2 f3
  rw [cellsViews] at f4
  obtain ⟨hl0, c, hc⟩ := struct_ints (I := 3) Tryz.underlying3 cellsInt Tryz.underlying23 cellsCfg (by kernel_rfl) f0
  obtain ⟨bs, hbs, _, _⟩ := DataW.trod_int Tryz.underlying3 f1
  obtain ⟨kind, hk, _, _⟩ := DataW.trod_int Tryz.underlying3 f2
  obtain ⟨words, hw, _, hww⟩ := DataW.trod_int Tryz.underlying3 f3
  have hcs0 := list_ext_ints (A := cfgA c) (f := c) hl0 rfl (fun i hi => (hc i hi).1) (fun i hi => cfgA_get c hi)
  have split : cs.toList = (cs.toList.drop 0).take 14 ++ ((cs.toList.drop 14).take 1 ++ ((cs.toList.drop 15).take 1 ++ ((cs.toList.drop 16).take 1 ++ (cs.toList.drop 17).take 1))) := by
    generalize cs.toList = L at hlen
    match L, hlen with
    | [a0, a1, a2, a3, a4, a5, a6, a7, a8, a9, a10, a11, a12, a13, a14, a15, a16, a17], _ => rfl
  obtain ⟨sv, hsv⟩ : ∃ sv, (cs.toList.drop 17).take 1 = [sv] := by
    generalize cs.toList = L at hlen
    match L, hlen with
    | [a0, a1, a2, a3, a4, a5, a6, a7, a8, a9, a10, a11, a12, a13, a14, a15, a16, a17], _ => exact ⟨a17, rfl⟩
  have f4' : DataW.trod enc Tryz.prog w base sp held n 24 [sv] = some y4 := by rw [← hsv]; exact f4
  obtain ⟨A, m, cap, l, rfl, hm, hr⟩ := open_views f4'
  refine ⟨c, bs, kind, words, A, m, cap, l, ?_, hm, hr, ?_⟩
  · rw [← Array.toArray_toList (xs := cs), split, hcs0, hbs, hk, hw, hsv]
    rfl
  · have := ((Lit.wf_int_iff .i64 words).1 hww).2
    have e : IntKind.i64.max = 9223372036854775807 := rfl
    rw [e] at this
    exact this
end Go.Proofs.YtdcppdgnekhcgaaGreatDoor
