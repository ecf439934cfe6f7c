/-
  The argument 'Memory', opened: a configuration and eight numbers.
-/
import Derived.Test.YtjphgedbejoeaaaPolAsk
import Derived.Test.YtjphgedbejoeaaaPolRm
namespace Go.Proofs.Ytjphgedbejoeaaa
open Go.ChangeShapes Go.WideShapes Go.ChangeAt Go.RowKit Go.Deep Pol

theorem cellsMem : Try.prog.cellsOf 49 = 22 := by kernel_rfl

theorem open_mem {H : Type} {enc : TypeId × Value → H} {w : World} {base b0 : Nat} {sp : Nat → Bool} {held : Bool} {r : Reach} {v : Value} {d : DataW H} {p : List MemPlace}
    (hv : Value.okWide Try.prog w r b0 49 v) (h : DataW.Trod enc Try.prog w base sp held 49 v d p) :
    ∃ c yl yd tl td bs words sv pr, v = .agg (memA c yl yd tl td bs words sv pr) ∧ words ≤ 9223372036854775807 := by
  obtain ⟨cs, rfl, _⟩ := okWide_struct Try.underlying49 hv
  obtain ⟨fuel, hf⟩ := h
  obtain ⟨xs, n, _, _, hlen, hxl, hfld⟩ := DataW.trod_struct Try.underlying49 (show DataW.trod enc Try.prog w base sp held fuel 49 cs.toList = _ from hf)
  rw [cellsMem] at hlen
  have hx9 : xs.length = 9 := hxl
  have g : ∀ i, i < 9 → ∃ y, xs[i]? = some y := fun i hi => ⟨_, List.getElem?_eq_getElem (by omega)⟩
  obtain ⟨y0, hy0⟩ := g 0 (by omega)
  obtain ⟨y1, hy1⟩ := g 1 (by omega)
  obtain ⟨y2, hy2⟩ := g 2 (by omega)
  obtain ⟨y3, hy3⟩ := g 3 (by omega)
  obtain ⟨y4, hy4⟩ := g 4 (by omega)
  obtain ⟨y5, hy5⟩ := g 5 (by omega)
  obtain ⟨y6, hy6⟩ := g 6 (by omega)
  obtain ⟨y7, hy7⟩ := g 7 (by omega)
  obtain ⟨y8, hy8⟩ := g 8 (by omega)
  have f0 : DataW.trod enc Try.prog w base sp held n 23 ((cs.toList.drop 0).take (Try.prog.cellsOf 23)) = some y0 := (hfld 0 _ rfl).trans hy0
  have f1 : DataW.trod enc Try.prog w base sp held n 3 ((cs.toList.drop 14).take (Try.prog.cellsOf 3)) = some y1 := (hfld 1 _ rfl).trans hy1
  have f2 : DataW.trod enc Try.prog w base sp held n 3 ((cs.toList.drop 15).take (Try.prog.cellsOf 3)) = some y2 := (hfld 2 _ rfl).trans hy2
  have f3 : DataW.trod enc Try.prog w base sp held n 3 ((cs.toList.drop 16).take (Try.prog.cellsOf 3)) = some y3 := (hfld 3 _ rfl).trans hy3
  have f4 : DataW.trod enc Try.prog w base sp held n 3 ((cs.toList.drop 17).take (Try.prog.cellsOf 3)) = some y4 := (hfld 4 _ rfl).trans hy4
  have f5 : DataW.trod enc Try.prog w base sp held n 3 ((cs.toList.drop 18).take (Try.prog.cellsOf 3)) = some y5 := (hfld 5 _ rfl).trans hy5
  have f6 : DataW.trod enc Try.prog w base sp held n 3 ((cs.toList.drop 19).take (Try.prog.cellsOf 3)) = some y6 := (hfld 6 _ rfl).trans hy6
  have f7 : DataW.trod enc Try.prog w base sp held n 3 ((cs.toList.drop 20).take (Try.prog.cellsOf 3)) = some y7 := (hfld 7 _ rfl).trans hy7
  have f8 : DataW.trod enc Try.prog w base sp held n 3 ((cs.toList.drop 21).take (Try.prog.cellsOf 3)) = some y8 := (hfld 8 _ rfl).trans hy8
  rw [cellsCfg] at f0
  rw [cellsInt] at f1 f2 f3 f4 f5 f6 f7 f8
  obtain ⟨hl0, c, hc⟩ := struct_ints (I := 3) Try.underlying3 cellsInt Try.underlying23 cellsCfg (by kernel_rfl) f0
  obtain ⟨n1, hn1, _, hw1⟩ := DataW.trod_int Try.underlying3 f1
  obtain ⟨n2, hn2, _, hw2⟩ := DataW.trod_int Try.underlying3 f2
  obtain ⟨n3, hn3, _, hw3⟩ := DataW.trod_int Try.underlying3 f3
  obtain ⟨n4, hn4, _, hw4⟩ := DataW.trod_int Try.underlying3 f4
  obtain ⟨n5, hn5, _, hw5⟩ := DataW.trod_int Try.underlying3 f5
  obtain ⟨n6, hn6, _, hw6⟩ := DataW.trod_int Try.underlying3 f6
  obtain ⟨n7, hn7, _, hw7⟩ := DataW.trod_int Try.underlying3 f7
  obtain ⟨n8, hn8, _, hw8⟩ := DataW.trod_int Try.underlying3 f8
  have hcs0 := list_ext_ints (A := cfgA c) (f := c) hl0 rfl (fun i hi => (hc i hi).1) (fun i hi => cfgA_get c hi)
  have split : cs.toList = (cs.toList.drop 0).take 14 ++ ((cs.toList.drop 14).take 1 ++ ((cs.toList.drop 15).take 1 ++ ((cs.toList.drop 16).take 1 ++ ((cs.toList.drop 17).take 1 ++ ((cs.toList.drop 18).take 1 ++ ((cs.toList.drop 19).take 1 ++ ((cs.toList.drop 20).take 1 ++ ((cs.toList.drop 21).take 1)))))))) := by
    generalize cs.toList = L at hlen
    match L, hlen with
    | [a0, a1, a2, a3, a4, a5, a6, a7, a8, a9, a10, a11, a12, a13, a14, a15, a16, a17, a18, a19, a20, a21], _ => rfl
  refine ⟨c, n1, n2, n3, n4, n5, n6, n7, n8, ?_, ?_⟩
  · rw [← Array.toArray_toList (xs := cs), split, hcs0, hn1, hn2, hn3, hn4, hn5, hn6, hn7, hn8]
    rfl
  · have := ((Lit.wf_int_iff .i64 n6).1 hw6).2
    have e : IntKind.i64.max = 9223372036854775807 := rfl
    rw [e] at this
    exact this
end Go.Proofs.Ytjphgedbejoeaaa
