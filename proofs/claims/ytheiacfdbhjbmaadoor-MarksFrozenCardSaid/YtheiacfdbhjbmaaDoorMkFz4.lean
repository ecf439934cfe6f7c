/-
  Marks: the statement MarksFrozen.
-/
import Derived.Test.YtheiacfdbhjbmaaDoorMkFz3
import Derived.Test.YtheiacfdbhjbmaaDoorMk10
namespace Go.Proofs.YtheiacfdbhjbmaaDoor
open Go.RowKit Go.Shelf Mk
set_option linter.unusedVariables false

def ZV (bg bn bw bm bq bx bh bo g gb size : Nat) (vw : Value) (qw : Nat) (lw : List Int) (hen : Int) (Ao : Option Addr) (co : Nat) (lo : List Int) (n₀ i : Nat) (W : World) : Prop :=
  ∃ ok F', LitM W bg bn bw bm bq bx bh bo g gb size vw qw lw hen Ao co lo ok ((2 * i : Nat) : Int) F'

theorem fz26_runs (bg bn bw bm bq bx bh bo g gb size : Nat) (vw : Value) (hen : Int) (Ao : Option Addr) (co : Nat) (lo : List Int) (F : Nat → Bool) (z : World) (hz : size ≤ 8192) (hlo : ∀ x ∈ lo, x ≤ 9223372036854775807)
    (h : LitM z bg bn bw bm bq bx bh bo g gb size vw (2 * (begs F size).length) (prI F size (begs F size).length) hen Ao co lo true 0 F) :
    Calls Tryd.prog 38 #[.func (.func 26) #[] #[.pointer (some ⟨bg, 0, none⟩), .pointer (some ⟨bn, 0, none⟩), .pointer (some ⟨bw, 0, none⟩), .pointer (some ⟨bm, 0, none⟩), .pointer (some ⟨bq, 0, none⟩), .pointer (some ⟨bh, 0, none⟩), .pointer (some ⟨bo, 0, none⟩)], .pointer (some ⟨bx, 0, none⟩)] z
      fun e W' => e = .returned (.tuple #[]) ∧ Fr [bg, bn, gb] z W' ∧ ∃ F', LitM W' bg bn bw bm bq bx bh bo g gb size vw (2 * (begs F size).length) (prI F size (begs F size).length) hen Ao co lo true ((2 * (begs F size).length : Nat) : Int) F' := by
  obtain ⟨cs, hcs, _⟩ := h.M.W
  have hlen : (begs F size).length ≤ size := begs_le F size
  have e1 : g ≠ bg := h.M.B.ne h.f.o (by decide)
  have e2 : g ≠ bn := h.M.B.ne h.f.c (by decide)
  have e3 : g ≠ gb := h.M.ne
  have e4 : bx ≠ bg := h.x.ne h.f.o (by decide)
  have e5 : bx ≠ bn := h.x.ne h.f.c (by decide)
  have e6 : bx ≠ gb := h.x.ne hcs (by decide)
  refine (runs1_anyV g gb bx 26 size _ F z h.M h.O (h.x.cell 0) [bg, bn, gb] ?_ ?_ ?_ (enters_of Tryd.func26 (by kernel_rfl) rfl)
    (ZV bg bn bw bm bq bx bh bo g gb size vw (2 * (begs F size).length) (prI F size (begs F size).length) hen Ao co lo) (fun _ _ W => Bk W bg 4 #[.bool true]) (fun _ _ _ => False) ?_ ?_ ?_ ?_ ?_ ?_).mono ?_
  · intro x hx
    simp only [List.mem_cons, List.not_mem_nil, or_false] at hx
    rcases hx with rfl | rfl | rfl
    · exact h.f.o.lt
    · exact h.f.c.lt
    · exact hcs.lt
  · simp [e1, e2, e3]
  · simp [e4, e5, e6]
  · rintro n₀ i A B row ⟨ok, F', h1⟩ hg hr
    exact ⟨ok, F', h1.kept hg hr⟩
  · intro n₀ i A B row h1 hg hr
    exact bk_kept h1 hg hr
  · intro n₀ i A B row h1 hg hr
    exact h1
  · intro n₀ W hn hn2 hf
    exact ⟨true, F, h.fr hf⟩
  · intro n₀ W hn hf
    exact (h.fr hf).f.o
  · rintro n₀ x i W hn hi hx hfx ⟨ok, F', h1⟩
    refine (fz26_any bg bn bw bm bq bx bh bo g gb size vw _ _ hen Ao co lo ok (2 * i) F' (x : Nat) ((endN F size x - x : Nat) : Int) W h1 (by omega) (by omega) hz hlo).mono ?_
    rintro e W' ⟨ok', F'', rfl, hL', hfr, hi2⟩
    rw [show ((2 * i : Nat) : Int) + 2 = ((2 * (i + 1) : Nat) : Int) by omega] at hL'
    refine ⟨ok', rfl, ⟨ok', F'', hL'⟩, hfr.kb (fun y hy => .inl hy), hfr.keeps (fun y hy => ?_), fun hbi hu => ?_⟩
    · simp only [List.mem_cons, List.not_mem_nil, or_false] at hy
      rcases hy with rfl | rfl | rfl
      · exact ⟨_, _, h1.f.o⟩
      · exact ⟨_, _, h1.f.c⟩
      · obtain ⟨cs', hcs', _⟩ := h1.M.W
        exact ⟨_, _, hcs'⟩
    · have e1 : ok = true := by have := bk_same h1.f.o hu; simpa using this
      have hil : i < (begs F size).length := (List.getElem?_eq_some_iff.1 hbi).1
      obtain ⟨a1, a2⟩ := prI_at hil hbi
      have := hi2 e1 a1 a2
      subst this
      exact ⟨fun _ => hL'.f.o, fun h => by cases h⟩
  · rintro e W' ⟨rfl, hkb, n₀, hn, hu⟩
    refine ⟨rfl, hkb.fr, ?_⟩
    rcases hu with ⟨⟨ok, F', h1⟩, hu⟩ | ⟨i, hi, _, hF⟩
    · have e1 : ok = true := by have := bk_same h1.f.o hu; simpa using this
      subst e1
      exact ⟨F', h1⟩
    · exact hF.elim

set_option maxRecDepth 100000 in
theorem frozen_none (words hen : Int) (A1 A2 : Option Addr) (n1 c1 n2 c2 : Nat) (l1 : List Int) (w : World) (hw : ¬ (0 ≤ words ∧ words ≤ 8192)) (hO : On w) :
    Calls Tryd.prog 5 #[.int .i64 words, .slice A1 n1 c1, .slice A2 n2 c2, .int .i64 hen] w fun e w' => e = .returned (.bool true) ∧ Fr [] w w' := by
  obtain ⟨wa, hwa⟩ : ∃ wa, wa = (w.alloc (.cells #[.slice A2 n2 c2] 22)).alloc (.cells #[.int .i64 hen] 3) := ⟨_, rfl⟩
  have hfa : Fr [] w wa := by rw [hwa]; exact ((Fr.refl _ _).alloc _).alloc _
  have HWA := Lib.hid hwa
  have HFA := Lib.hid hfa
  have HO := Lib.hid (hO.fr hfa (by simp))
  clear hO hwa hfa
  go_enter Tryd.func5, Tryd.ntmps5
  go_upto_region 1 with fail
  rw [← HWA.out]
  go_wp2_with fail
  refine (known_any wa HO.out).mono ?_
  rintro e w1 ⟨rfl, hf1⟩
  have HF1 := Lib.hid (HFA.out.trans hf1 (by simp))
  clear hf1
  go_wp2_with fail
  refine (filled_none words A1 n1 c1 l1 w1 hw).mono ?_
  rintro e w2 ⟨rfl, hf2⟩
  have HF2 := Lib.hid (HF1.out.trans hf2 (by simp))
  clear hf2
  have c1 := (Bk.new w2 24 #[.pointer none]).cell 0
  go_wp2_with fail
  go_ret
  exact ⟨rfl, HF2.out.alloc _⟩

set_option maxRecDepth 100000 in
set_option maxHeartbeats 3200000 in
theorem frozen_good (words : Nat) (hen : Int) (A1 A2 : Option Addr) (n1 c1 n2 c2 : Nat) (l1 l2 : List Int) (w : World) (hw : words ≤ 8192) (h1 : n1 = l1.length) (r1 : RdI w A1 l1) (b1 : ∀ x ∈ l1, x ≤ 9223372036854775807)
    (h2 : n2 = l2.length) (r2 : RdI w A2 l2) (b2 : ∀ x ∈ l2, x ≤ 9223372036854775807) (hO : On w) :
    Calls Tryd.prog 5 #[.int .i64 words, .slice A1 n1 c1, .slice A2 n2 c2, .int .i64 hen] w fun e w' => e = .returned (.bool true) ∧ Fr [] w w' := by
  subst h2
  obtain ⟨wa, hwa⟩ : ∃ wa, wa = (w.alloc (.cells #[.slice A2 l2.length c2] 22)).alloc (.cells #[.int .i64 hen] 3) := ⟨_, rfl⟩
  have hfa : Fr [] w wa := by rw [hwa]; exact ((Fr.refl _ _).alloc _).alloc _
  have hbo : Bk wa w.heap.size 22 #[.slice A2 l2.length c2] := by rw [hwa]; exact (Bk.new _ _ _).alloc _
  have hbh : Bk wa (w.heap.size + 1) 3 #[.int .i64 hen] := by rw [hwa]; exact Bk.new_at _ _ _ _ (by simp)
  have hlt0 := hO.lt
  have hA2 : 0 < l2.length → ∀ a, A2 = some a → a.block < w.heap.size := fun h0 a ha => by
    obtain ⟨b, o, e, hb, _⟩ := r2.2 h0
    rw [ha] at e
    injection e with e
    subst e
    exact hb
  have HWA := Lib.hid hwa
  have HFA := Lib.hid hfa
  have HBO := Lib.hid hbo
  have HBH := Lib.hid hbh
  have HA2 := Lib.hid hA2
  have HO := Lib.hid (hO.fr hfa (by simp))
  have HR := Lib.hid (And.intro h1 (And.intro (r1.fr hfa (by simp)) b1))
  have HR2 := Lib.hid (r2.fr hfa (by simp))
  have HB2 := Lib.hid b2
  clear hO hwa hfa hbo hbh hA2 h1 r1 b1 r2 b2
  go_enter Tryd.func5, Tryd.ntmps5
  go_upto_region 1 with fail
  rw [← HWA.out]
  go_wp2_with fail
  refine (known_any wa HO.out).mono ?_
  rintro e w1 ⟨rfl, hf1⟩
  have HF1 := Lib.hid hf1
  clear hf1
  go_wp2_with fail
  refine (filled_some words A1 n1 c1 l1 w1 hw HR.out.1 (HR.out.2.1.fr HF1.out (by simp)) HR.out.2.2 (HO.out.fr HF1.out (by simp))).mono ?_
  rintro e w2 ⟨g, gb, rfl, hf2, hg, hgb, hM⟩
  obtain ⟨F, hF⟩ : ∃ F, fillF words l1 (pairsN l1) = F := ⟨_, rfl⟩
  rw [hF] at hM
  obtain ⟨w3, hw3⟩ : ∃ w3, w3 = w2.alloc (.cells #[.pointer (some ⟨g, 0, none⟩)] 24) := ⟨_, rfl⟩
  have hf3 : Fr [] w2 w3 := by rw [hw3]; exact (Fr.refl _ _).alloc _
  have hb3 : Bk w3 w2.heap.size 24 #[.pointer (some ⟨g, 0, none⟩)] := by rw [hw3]; exact Bk.new _ _ _
  have hfa3 : Fr [] wa w3 := (HF1.out.trans hf2 (by simp)).trans hf3 (by simp)
  have HM := Lib.hid (hM.fr hf3 (by simp) (by simp))
  have HFa := Lib.hid hfa3
  have HB3 := Lib.hid hb3
  have HO3 := Lib.hid (HO.out.fr hfa3 (by simp))
  have HW3 := Lib.hid hw3
  have q0 := HBH.out.lt
  have q1 := HF1.out.size
  have q2 := hf2.size
  clear hf2 hg hM hF hw3 hf3 hb3 hfa3 HR HF1 HO
  go_upto_region 4 with fail
  change Code.wp _ _ _ _ (w2.alloc (.cells #[.pointer (some ⟨g, 0, none⟩)] 24))
  rw [← HW3.out]
  have d1 : w3.cell? ⟨w2.heap.size, 0, none⟩ = some (.pointer (some ⟨g, 0, none⟩)) := HB3.out.cell 0
  go_wp2_with fail
  refine (pairs_any g gb words F w3 HM.out HO3.out hw).mono ?_
  rintro e w4 ⟨v, rfl, hL4, hf4⟩
  obtain ⟨Av, capv, rfl, _, _⟩ := hL4.look
  obtain ⟨w5, hw5⟩ : ∃ w5, w5 = w4.alloc (.cells #[.slice Av (2 * (begs F words).length) capv] 22) := ⟨_, rfl⟩
  have hf5 : Fr [] w4 w5 := by rw [hw5]; exact (Fr.refl _ _).alloc _
  have hbw : Bk w5 w4.heap.size 22 #[.slice Av (2 * (begs F words).length) capv] := by rw [hw5]; exact Bk.new _ _ _
  have HF35 := Lib.hid (hf4.trans hf5 (by simp))
  have HBW := Lib.hid hbw
  have HL5 := Lib.hid (hL4.fr hf5 (by simp))
  have HL4 := Lib.hid hL4
  have HW5 := Lib.hid hw5
  have q3 := HB3.out.lt
  have q4 := hf4.size
  have d2 : w5.cell? ⟨w2.heap.size, 0, none⟩ = some (.pointer (some ⟨g, 0, none⟩)) := (HB3.out.fr HF35.out (by simp)).cell 0
  clear hL4 hf4 hw5 hf5 hbw d1
  go_upto_region 7 with fail
  rw [← HW5.out]
  go_wp2_with fail
  refine (runs_any g w5).mono ?_
  rintro e w6 ⟨rfl, hw6⟩
  have hf6 : Fr [] w5 w6 := by rw [hw6]; exact (Fr.refl _ _).alloc _
  have hbx : Bk w6 w5.heap.size 24 #[.pointer (some ⟨g, 0, none⟩)] := by rw [hw6]; exact Bk.new _ _ _
  obtain ⟨z, hzz⟩ : ∃ z, z = ((w6.alloc (.cells #[.func (.func 38) #[] #[.pointer (some ⟨w5.heap.size, 0, none⟩)]] 40)).alloc (.cells #[.bool true] 4)).alloc (.cells #[.int .i64 0] 3) := ⟨_, rfl⟩
  have hfz : Fr [] w6 z := by rw [hzz]; exact (((Fr.refl _ _).alloc _).alloc _).alloc _
  have hbq : Bk z w6.heap.size 40 #[.func (.func 38) #[] #[.pointer (some ⟨w5.heap.size, 0, none⟩)]] := by rw [hzz]; exact ((Bk.new _ _ _).alloc _).alloc _
  have hbg : Bk z (w6.heap.size + 1) 4 #[.bool true] := by rw [hzz]; exact (Bk.new_at _ _ _ _ (by simp)).alloc _
  have hbn : Bk z (w6.heap.size + 1 + 1) 3 #[.int .i64 0] := by rw [hzz]; exact Bk.new_at _ _ _ _ (by simp)
  have hf5z : Fr [] w5 z := hf6.trans hfz (by simp)
  have hf3z : Fr [] w3 z := HF35.out.trans hf5z (by simp)
  have hfaz : Fr [] wa z := HFa.out.trans hf3z (by simp)
  have q5 := HBW.out.lt
  have q6 := hf6.size
  have hgbl : gb < w3.heap.size := by obtain ⟨cs, hcs, _⟩ := HM.out.W; exact hcs.lt
  have hLM : LitM z (w6.heap.size + 1) (w6.heap.size + 1 + 1) w4.heap.size w2.heap.size w6.heap.size w5.heap.size (w.heap.size + 1) w.heap.size g gb words (.slice Av (2 * (begs F words).length) capv) (2 * (begs F words).length) (prI F words (begs F words).length) hen A2 c2 l2 true 0 F := by
    refine ⟨⟨hbg, hbn, HBW.out.fr hf5z (by simp), (HL5.out.fr hf5z (by simp)).mono (Nat.zero_le _), fun j hj => ?_⟩, HB3.out.fr hf3z (by simp), hbq, hbx.fr hfz (by simp), HBH.out.fr hfaz (by simp), HBO.out.fr hfaz (by simp), HM.out.fr hf3z (by simp) (by simp), HO3.out.fr hf3z (by simp), HR2.out.fr hfaz (by simp), by omega, by omega, fun h0 a ha => ?_⟩
    · have := (HL5.out.lt j hj).2
      omega
    · have := HA2.out h0 a ha
      omega
  have HRUN := Lib.hid (fz26_runs (w6.heap.size + 1) (w6.heap.size + 1 + 1) w4.heap.size w2.heap.size w6.heap.size w5.heap.size (w.heap.size + 1) w.heap.size g gb words (.slice Av (2 * (begs F words).length) capv) hen A2 c2 l2 F z hw HB2.out hLM)
  have c4 : z.cell? ⟨w6.heap.size, 0, none⟩ = some (.func (.func 38) #[] #[.pointer (some ⟨w5.heap.size, 0, none⟩)]) := hbq.cell 0
  have HFz : Hid (Fr [] w z) := HFA.out.trans hfaz (by simp)
  have HZ := Lib.hid hzz
  have qz := hbn.lt
  have HGBL : Hid (w.heap.size ≤ gb) := by show w.heap.size ≤ gb; omega
  clear hw6 hf6 hbx hzz hfz hbq hbg hbn hf5z hf3z hfaz hLM d2 HF35 HBW HL5 HL4 HB3 HFa HM HO3 HBO HBH
  go_upto_region 10 with fail
  rw [← HZ.out]
  go_wp2_with fail
  refine (Calls.mono HRUN.out ?_)
  rintro e w7 ⟨rfl, hf7, F', hM7⟩
  have HM7 := Lib.hid hM7
  have HF7 : Hid (Fr [] w w7) := HFz.out.trans hf7 (fun y hy => .inr (by
    have := HGBL.out
    simp only [List.mem_cons, List.not_mem_nil, or_false] at hy
    rcases hy with e | e | e <;> omega))
  obtain ⟨N2, hN2⟩ : ∃ N2, 2 * (begs F words).length = N2 := ⟨_, rfl⟩
  have d1 : w7.cell? ⟨w6.heap.size + 1, 0, none⟩ = some (.bool true) := hM7.f.o.cell 0
  have d2 : w7.cell? ⟨w6.heap.size + 1 + 1, 0, none⟩ = some (.int .i64 (2 * (begs F words).length : Nat)) := hM7.f.c.cell 0
  have d3 : w7.cell? ⟨w4.heap.size, 0, none⟩ = some (.slice Av (2 * (begs F words).length) capv) := hM7.f.b.cell 0
  have d4 : w7.cell? ⟨w2.heap.size, 0, none⟩ = some (.pointer (some ⟨g, 0, none⟩)) := hM7.m.cell 0
  rw [hN2] at d2 d3
  have x1 : ((N2 : Int) != (N2 : Int)) = false := by simp
  have hbn7 := hM7.f.c.lt
  have hbg7 := hM7.f.o.lt
  have hbw7 := hM7.f.b.lt
  clear hf7 hM7 HRUN c4
  go_wp2_with fail
  refine (pairs_any g gb words F' w7 HM7.out.M HM7.out.O hw).mono ?_
  rintro e w8 ⟨v8, rfl, hL8, hf8⟩
  obtain ⟨A8, cap8, rfl, _, _⟩ := hL8.look
  have hM8 := HM7.out.fr hf8
  have cz := hM8.f.b.cell 0
  have fz := hM8.f.b.free 0
  have c5 := hM8.f.c.cell 0
  have f5 := hM8.f.c.free 0
  have hne : w4.heap.size ≠ w6.heap.size + 1 + 1 := by omega
  obtain ⟨y, hy⟩ : ∃ y, y = (w8.setCell ⟨w4.heap.size, 0, none⟩ (.slice A8 (2 * (begs F' words).length) cap8)).setCell ⟨w6.heap.size + 1 + 1, 0, none⟩ (.int .i64 0) := ⟨_, rfl⟩
  have hfy : Fr [w4.heap.size, w6.heap.size + 1 + 1] w8 y := by rw [hy]; exact ((Fr.refl _ _).setCell (by simp) _).setCell (by simp) _
  have hyw : Bk y w4.heap.size 22 #[.slice A8 (2 * (begs F' words).length) cap8] := by
    have := (hM8.f.b.put 0 (.slice A8 (2 * (begs F' words).length) cap8)).far (p := ⟨w6.heap.size + 1 + 1, 0, none⟩) hne (.int .i64 0)
    rw [hy]
    simpa using this
  have hyn : Bk y (w6.heap.size + 1 + 1) 3 #[.int .i64 0] := by
    have := (hM8.f.c.far (p := ⟨w4.heap.size, 0, none⟩) hne.symm (.slice A8 (2 * (begs F' words).length) cap8)).put 0 (.int .i64 0)
    rw [hy]
    simpa using this
  have hyg : Bk y (w6.heap.size + 1) 4 #[.bool true] := hM8.f.o.fr hfy (by simp; omega)
  obtain ⟨cs8, hcs8, _⟩ := hM8.M.W
  have hyM : MapIs y g gb words F' := hM8.M.fr hfy (fun hx => by
    simp only [List.mem_cons, List.not_mem_nil, or_false] at hx
    rcases hx with e | e
    · exact hM8.M.B.ne hM8.f.b (by decide) e
    · exact hM8.M.B.ne hM8.f.c (by decide) e) (fun hx => by
    simp only [List.mem_cons, List.not_mem_nil, or_false] at hx
    rcases hx with e | e
    · exact hcs8.ne hM8.f.b (by decide) e
    · exact hcs8.ne hM8.f.c (by decide) e)
  have hyO : On y := hM8.O.fr hfy (by simp; omega)
  have hyx : Bk y w5.heap.size 24 #[.pointer (some ⟨g, 0, none⟩)] := hM8.x.fr hfy (by simp; omega)
  have hyq : Bk y w6.heap.size 40 #[.func (.func 38) #[] #[.pointer (some ⟨w5.heap.size, 0, none⟩)]] := hM8.q.fr hfy (by simp; omega)
  have hyL := hL8.fr hfy (fun j hj hx => by
    have h3 := (hL8.lt j hj).1
    simp only [List.mem_cons, List.not_mem_nil, or_false] at hx
    rcases hx with e | e <;> omega)
  have HRUN := Lib.hid (fz28_runs g gb w5.heap.size words (w6.heap.size + 1) (w6.heap.size + 1 + 1) w4.heap.size F' true (.slice A8 (2 * (begs F' words).length) cap8) y hyM hyO (hyx.cell 0) hw
    ⟨hyg, hyn, hyw, hyL.mono (Nat.zero_le _), fun j hj => by have h3 := (hL8.lt j hj).1; omega⟩ (by omega))
  have c4 : y.cell? ⟨w6.heap.size, 0, none⟩ = some (.func (.func 38) #[] #[.pointer (some ⟨w5.heap.size, 0, none⟩)]) := hyq.cell 0
  have HFY : Hid (Fr [] w y) := (HF7.out.trans hf8 (by simp)).trans hfy (fun j hj => .inr (by
    simp only [List.mem_cons, List.not_mem_nil, or_false] at hj
    rcases hj with e | e <;> omega))
  have HY := Lib.hid hy
  clear hL8 hf8 hM8 hy hfy hyw hyn hyg hcs8 hyM hyO hyx hyq hyL d1 d2 d3 d4 HM7
  go_upto_region 15 with fail
  rw [← HY.out]
  go_wp2_with fail
  refine (Calls.mono HRUN.out ?_)
  rintro e w9 ⟨rfl, hf9, k', hL9, hk'⟩
  obtain rfl := hk' (by first | rfl | trivial)
  have d1 : w9.cell? ⟨w6.heap.size + 1, 0, none⟩ = some (.bool true) := hL9.o.cell 0
  have d2 : w9.cell? ⟨w6.heap.size + 1 + 1, 0, none⟩ = some (.int .i64 (2 * (begs F' words).length : Nat)) := hL9.c.cell 0
  have d3 : w9.cell? ⟨w4.heap.size, 0, none⟩ = some (.slice A8 (2 * (begs F' words).length) cap8) := hL9.b.cell 0
  have HF9 : Hid (Fr [] w w9) := HFY.out.trans hf9 (fun j hj => .inr (by
    simp only [List.mem_cons, List.not_mem_nil, or_false] at hj
    rcases hj with e | e <;> omega))
  obtain ⟨M2, hM2⟩ : ∃ M2, 2 * (begs F' words).length = M2 := ⟨_, rfl⟩
  rw [hM2] at d2 d3
  have x2 : ((M2 : Int) == (M2 : Int)) = true := by simp
  clear hf9 hL9 hk' hM2 HRUN c4
  go_wp2_with fail
  go_ret
  exact ⟨rfl, HF9.out⟩
end Go.Proofs.YtheiacfdbhjbmaaDoor
