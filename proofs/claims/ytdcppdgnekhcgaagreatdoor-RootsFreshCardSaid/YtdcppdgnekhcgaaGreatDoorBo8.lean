/-
  The Book of middenkept: marks, grows, done.
-/
import Derived.Test.YtdcppdgnekhcgaaGreatDoorBo6
import Derived.Test.YtdcppdgnekhcgaaGreatDoorBoG
namespace Go.Proofs.YtdcppdgnekhcgaaGreatDoor
open Go.RowKit
set_option linter.unusedVariables false

theorem Sg.again {w0 w w' : World} {Us : List (Th w0.heap.size)} {S : BS} (h : Sg w0 (bkT w0.heap.size S ++ Us) w) (hb : Bk w' S.g 43 (bookA S)) (hf : Fr [S.g] w w') : Sg w0 (bkT w0.heap.size S ++ Us) w' := by
  have h1 := h.set (i := 0) (t := thBox w0.heap.size S.g 43 (bookA S)) (t' := thBox w0.heap.size S.g 43 (bookA S)) rfl hf ⟨hb, (h.ok 0 _ rfl).2⟩ (fun x hx => .inl hx)
  exact h1
set_option maxRecDepth 100000 in
set_option maxHeartbeats 1600000 in
theorem marks_any {w0 w : World} {Us : List (Th w0.heap.size)} {S : BS} {XW : List (Value × List Int)} {K L : Nat} (h : Sg w0 (bkT w0.heap.size S ++ Us) w) (hl : BLk S [] XW [] K L) (hK : K ≤ 2000000000000) (hL : L ≤ 4000000000000) :
    Calls Tryz.prog 91 #[.pointer (some ⟨S.g, 0, none⟩)] w fun e w' => e = .returned (.tuple #[]) ∧ ∃ S' XF' XW', S'.g = S.g ∧ S'.deep = S.deep ∧ BLk S' XF' XW' [] K L ∧ Sg w0 (bkT w0.heap.size S' ++ Us) w' := by
  have HB := Lib.hid h.book
  have HI := Lib.hid (markInts_any h hl hK hL)
  clear h hl
  go_enter Tryz.func91, Tryz.ntmps91
  go_wp2_with fail
  refine (Calls.mono (markBytes_any S _ HB.out) ?_)
  rintro e z ⟨rfl, rfl⟩
  go_wp2_with fail
  refine (Calls.mono HI.out ?_)
  rintro e z ⟨rfl, S', XF', XW', g1, g2, g3, g4⟩
  have HB2 : Hid (Bk z S.g 43 (bookA S')) := by have := g4.book; rw [g1] at this; exact this
  have HE : Hid (∃ S' XF' XW', S'.g = S.g ∧ S'.deep = S.deep ∧ BLk S' XF' XW' [] K L ∧ Sg w0 (bkT w0.heap.size S' ++ Us) z) := ⟨S', XF', XW', g1, g2, g3, g4⟩
  have HG := Lib.hid g1
  clear g1 g2 g3 g4
  go_wp2_with fail
  refine (Calls.mono (by have := markBools_any S' z (by rw [HG.out]; exact HB2.out); rw [HG.out] at this; exact this) ?_)
  rintro e y ⟨rfl, rfl⟩
  go_wp2_with fail
  refine (Calls.mono (by have := markWords_any S' z (by rw [HG.out]; exact HB2.out); rw [HG.out] at this; exact this) ?_)
  rintro e y ⟨rfl, rfl⟩
  go_wp2_with fail
  refine (Calls.mono (by have := markTexts_any S' z (by rw [HG.out]; exact HB2.out); rw [HG.out] at this; exact this) ?_)
  rintro e y ⟨rfl, rfl⟩
  go_wp2_with fail
  refine (Calls.mono (by have := markMoves_any S' z (by rw [HG.out]; exact HB2.out); rw [HG.out] at this; exact this) ?_)
  rintro e y ⟨rfl, rfl⟩
  go_wp2_with fail
  refine (Calls.mono (by have := markSites_any S' z (by rw [HG.out]; exact HB2.out); rw [HG.out] at this; exact this) ?_)
  rintro e y ⟨rfl, rfl⟩
  go_wp2_with fail
  refine (Calls.mono (by have := markGrowths_any S' z (by rw [HG.out]; exact HB2.out); rw [HG.out] at this; exact this) ?_)
  rintro e y ⟨rfl, rfl⟩
  go_wp2_with fail
  refine (Calls.mono (by have := markOps_any S' z (by rw [HG.out]; exact HB2.out); rw [HG.out] at this; exact this) ?_)
  rintro e y ⟨rfl, rfl⟩
  go_wp2_with fail
  refine (Calls.mono (by have := markIntLists_any S' z (by rw [HG.out]; exact HB2.out); rw [HG.out] at this; exact this) ?_)
  rintro e y ⟨rfl, rfl⟩
  go_wp2_with fail
  refine (Calls.mono (by have := markWordLists_any S' z (by rw [HG.out]; exact HB2.out); rw [HG.out] at this; exact this) ?_)
  rintro e y ⟨rfl, rfl⟩
  go_wp2_with fail
  refine (Calls.mono (by have := markFrames_any S' z (by rw [HG.out]; exact HB2.out); rw [HG.out] at this; exact this) ?_)
  rintro e y ⟨rfl, rfl⟩
  go_wp2_with fail
  refine (Calls.mono (by have := markObjects_any S' z (by rw [HG.out]; exact HB2.out); rw [HG.out] at this; exact this) ?_)
  rintro e y ⟨rfl, rfl⟩
  go_wp2_with fail
  go_returns
  exact ⟨rfl, HE.out⟩
set_option maxRecDepth 100000 in
set_option maxHeartbeats 1600000 in
theorem grows_any {w0 w : World} {Us : List (Th w0.heap.size)} {S : BS} {XF XW : List (Value × List Int)} {K L g : Nat} (h : Sg w0 (bkT w0.heap.size S ++ Us) w) (hg : S.g = g) (hl : BLk S XF XW [] K L) (hK : K ≤ 2000000000000) (hL : L ≤ 4000000000000) :
    Calls Tryz.prog 92 #[.pointer (some ⟨g, 0, none⟩)] w fun e w' => e = .returned (.tuple #[]) ∧ ∃ S', S'.g = g ∧ S'.deep = S.deep ∧ BLk S' [] XW [] K L ∧ Sg w0 (bkT w0.heap.size S' ++ Us) w' := by
  subst hg
  have H := Lib.hid h
  have HL := Lib.hid hl
  clear h hl
  go_enter Tryz.func92, Tryz.ntmps92
  go_wp2_with fail
  refine (Calls.mono (growBytes_any S _ H.out.book) ?_)
  rintro e z ⟨rfl, hb, hf⟩
  have H2 := Lib.hid (H.out.again hb hf)
  clear hb hf
  go_wp2_with fail
  refine (Calls.mono (growInts_any H2.out HL.out hK hL) ?_)
  rintro e z1 ⟨rfl, S', g1, g2, g3, g4⟩
  have H0 := Lib.hid g4
  have HG := Lib.hid g1
  have HR : Hid (S'.deep = S.deep ∧ BLk S' [] XW [] K L) := ⟨g2, g3⟩
  clear g1 g2 g3 g4
  go_wp2_with fail
  refine (Calls.mono (by have := growBools_any S' _ H0.out.book; rw [HG.out] at this; exact this) ?_)
  rintro e y2 ⟨rfl, hb, hf⟩
  have HH2 := Lib.hid (H0.out.again (by rw [HG.out]; exact hb) (by rw [HG.out]; exact hf))
  clear hb hf
  go_wp2_with fail
  refine (Calls.mono (by have := growWords_any S' _ HH2.out.book; rw [HG.out] at this; exact this) ?_)
  rintro e y3 ⟨rfl, hb, hf⟩
  have HH3 := Lib.hid (HH2.out.again (by rw [HG.out]; exact hb) (by rw [HG.out]; exact hf))
  clear hb hf
  go_wp2_with fail
  refine (Calls.mono (by have := growTexts_any S' _ HH3.out.book; rw [HG.out] at this; exact this) ?_)
  rintro e y4 ⟨rfl, hb, hf⟩
  have HH4 := Lib.hid (HH3.out.again (by rw [HG.out]; exact hb) (by rw [HG.out]; exact hf))
  clear hb hf
  go_wp2_with fail
  refine (Calls.mono (by have := growMoves_any S' _ HH4.out.book; rw [HG.out] at this; exact this) ?_)
  rintro e y5 ⟨rfl, hb, hf⟩
  have HH5 := Lib.hid (HH4.out.again (by rw [HG.out]; exact hb) (by rw [HG.out]; exact hf))
  clear hb hf
  go_wp2_with fail
  refine (Calls.mono (by have := growSites_any S' _ HH5.out.book; rw [HG.out] at this; exact this) ?_)
  rintro e y6 ⟨rfl, hb, hf⟩
  have HH6 := Lib.hid (HH5.out.again (by rw [HG.out]; exact hb) (by rw [HG.out]; exact hf))
  clear hb hf
  go_wp2_with fail
  refine (Calls.mono (by have := growGrowths_any S' _ HH6.out.book; rw [HG.out] at this; exact this) ?_)
  rintro e y7 ⟨rfl, hb, hf⟩
  have HH7 := Lib.hid (HH6.out.again (by rw [HG.out]; exact hb) (by rw [HG.out]; exact hf))
  clear hb hf
  go_wp2_with fail
  refine (Calls.mono (by have := growOps_any S' _ HH7.out.book; rw [HG.out] at this; exact this) ?_)
  rintro e y8 ⟨rfl, hb, hf⟩
  have HH8 := Lib.hid (HH7.out.again (by rw [HG.out]; exact hb) (by rw [HG.out]; exact hf))
  clear hb hf
  go_wp2_with fail
  refine (Calls.mono (by have := growIntLists_any S' _ HH8.out.book; rw [HG.out] at this; exact this) ?_)
  rintro e y9 ⟨rfl, hb, hf⟩
  have HH9 := Lib.hid (HH8.out.again (by rw [HG.out]; exact hb) (by rw [HG.out]; exact hf))
  clear hb hf
  go_wp2_with fail
  refine (Calls.mono (by have := growWordLists_any S' _ HH9.out.book; rw [HG.out] at this; exact this) ?_)
  rintro e y10 ⟨rfl, hb, hf⟩
  have HH10 := Lib.hid (HH9.out.again (by rw [HG.out]; exact hb) (by rw [HG.out]; exact hf))
  clear hb hf
  go_wp2_with fail
  refine (Calls.mono (by have := growFrames_any S' _ HH10.out.book; rw [HG.out] at this; exact this) ?_)
  rintro e y11 ⟨rfl, hb, hf⟩
  have HH11 := Lib.hid (HH10.out.again (by rw [HG.out]; exact hb) (by rw [HG.out]; exact hf))
  clear hb hf
  go_wp2_with fail
  refine (Calls.mono (by have := growObjects_any S' _ HH11.out.book; rw [HG.out] at this; exact this) ?_)
  rintro e y12 ⟨rfl, hb, hf⟩
  have HH12 := Lib.hid (HH11.out.again (by rw [HG.out]; exact hb) (by rw [HG.out]; exact hf))
  clear hb hf
  go_wp2_with fail
  go_returns
  exact ⟨rfl, S', HG.out, HR.out.1, HR.out.2, HH12.out⟩
set_option maxRecDepth 100000 in
set_option maxHeartbeats 1600000 in
theorem done_any {w0 w : World} {Us : List (Th w0.heap.size)} {S : BS} {XW : List (Value × List Int)} {K L : Nat} (h : Sg w0 (bkT w0.heap.size S ++ Us) w) (hl : BLk S [] XW [] K L) (hd : S.deep = 1) (hK : K ≤ 2000000000000) (hL : L ≤ 4000000000000) :
    Calls Tryz.prog 58 #[.pointer (some ⟨S.g, 0, none⟩)] w fun e w' => e = .returned (.tuple #[]) ∧ ∃ S' XW', S'.g = S.g ∧ S'.deep = 0 ∧ BLk S' [] XW' [] K L ∧ Sg w0 (bkT w0.heap.size S' ++ Us) w' := by
  have c3 : w.cell? ⟨S.g, 3, none⟩ = some (.int .i64 1) := by have := h.book.cell 3; rw [show (bookA S)[3]? = some (.int .i64 S.deep) from rfl, hd] at this; exact this
  have f3 := h.book.free 3
  have h1 := h.cel (S' := { S with deep := 0 }) (j := 3) (u := .int .i64 0) rfl rfl
  obtain ⟨w1, hw1⟩ : ∃ w1, w.setCell ⟨S.g, 3, none⟩ (.int .i64 0) = w1 := ⟨_, rfl⟩
  rw [hw1] at h1
  have d3 : w1.cell? ⟨S.g, 3, none⟩ = some (.int .i64 0) := h1.book.cell 3
  have HM : Hid (Calls Tryz.prog 91 #[.pointer (some ⟨S.g, 0, none⟩)] w1 fun e w' => e = .returned (.tuple #[]) ∧ ∃ S' XF' XW', S'.g = S.g ∧ S'.deep = 0 ∧ BLk S' XF' XW' [] K L ∧ Sg w0 (bkT w0.heap.size S' ++ Us) w') :=
    marks_any h1 ⟨hl.x, hl.W, hl.F, hl.n, hl.m, hl.d, hl.r, hl.t, hl.o, hl.w, hl.k, hl.l⟩ hK hL
  clear h hl h1 hd
  go_enter Tryz.func58, Tryz.ntmps58
  go_upto_region 1 with fail
  try rw [hw1]
  clear hw1 c3 f3
  go_wp2_with fail
  refine (Calls.mono HM.out ?_)
  rintro e z ⟨rfl, S1, XF1, XW1, g1, g2, g3, g4⟩
  have HG := Lib.hid (grows_any g4 g1 g3 hK hL)
  have HD := Lib.hid g2
  clear g1 g2 g3 g4 d3
  go_wp2_with fail
  refine (Calls.mono HG.out ?_)
  rintro e y ⟨rfl, S2, g1, g2, g3, g4⟩
  have c2 : y.cell? ⟨S.g, 2, none⟩ = some (.int .i64 S2.turn) := by have := g4.book.cell 2; rw [g1] at this; exact this
  have f2 : y.frozen? ⟨S.g, 2, none⟩ = false := by have := g4.book.free 2; rw [g1] at this; exact this
  have h5 := g4.cel (S' := { S2 with turn := wrap64 (S2.turn + 1) }) (j := 2) (u := .int .i64 (wrap64 (S2.turn + 1))) rfl rfl
  have HE : Hid (∀ Z, Z = y.setCell ⟨S2.g, 2, none⟩ (.int .i64 (wrap64 (S2.turn + 1))) → ∃ S' XW', S'.g = S.g ∧ S'.deep = 0 ∧ BLk S' [] XW' [] K L ∧ Sg w0 (bkT w0.heap.size S' ++ Us) Z) := fun Z hZ => by
    subst hZ
    exact ⟨{ S2 with turn := wrap64 (S2.turn + 1) }, XW1, g1, g2.trans HD.out, ⟨g3.x, g3.W, g3.F, g3.n, g3.m, g3.d, g3.r, g3.t, g3.o, g3.w, g3.k, g3.l⟩, h5⟩
  have HG1 := Lib.hid g1
  clear g1 g2 g3 g4 h5
  go_wp2_with fail
  go_returns
  exact ⟨rfl, HE.out _ (by rw [HG1.out])⟩
end Go.Proofs.YtdcppdgnekhcgaaGreatDoor
