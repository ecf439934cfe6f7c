/-
  Marks: the statement MarksSums.
-/
import Derived.Test.YtheiacfdbhjbmaaDoorMkSum1
import Derived.Test.YtheiacfdbhjbmaaDoorMkDk2
import Derived.Test.YtheiacfdbhjbmaaDoorMk10
namespace Go.Proofs.YtheiacfdbhjbmaaDoor
open Go.RowKit Go.Shelf Mk
set_option linter.unusedVariables false

def SV (F : Nat → Bool) (size g gb bg be bw bm bs : Nat) (n₀ : Nat) (W : World) : Prop := ∃ gd en sm, LitS W F size g gb bg be bw bm bs gd en sm ∧ -1 ≤ en ∧ en ≤ 8192
def SU (F : Nat → Bool) (size bg be bs : Nat) (n₀ i : Nat) (W : World) : Prop := Bk W bg 4 #[.bool true] ∧ Bk W be 3 #[.int .i64 (enI F size i)] ∧ Bk W bs 3 #[.int .i64 (sN F size i : Nat)]

theorem runs_sums (F : Nat → Bool) (size g gb bg be bw bm bs bx : Nat) (z : World) (h : LitS z F size g gb bg be bw bm bs true (-1) 0) (hbm : z.cell? ⟨bx, 0, none⟩ = some (.pointer (some ⟨g, 0, none⟩))) (hz : size ≤ 8192) (hm : bx ≠ bg ∧ bx ≠ be ∧ bx ≠ bs) :
    Calls Tryd.prog 38 #[.func (.func 22) #[] #[.pointer (some ⟨bg, 0, none⟩), .pointer (some ⟨be, 0, none⟩), .pointer (some ⟨bw, 0, none⟩), .pointer (some ⟨bm, 0, none⟩), .pointer (some ⟨bs, 0, none⟩)], .pointer (some ⟨bx, 0, none⟩)] z
      fun e W' => e = .returned (.tuple #[]) ∧ Fr [bg, be, bs] z W' ∧ LitS W' F size g gb bg be bw bm bs true (enI F size (begs F size).length) (sN F size (begs F size).length : Nat) := by
  obtain ⟨cs, hcs, _⟩ := h.M.W
  have e7 : g ≠ bg := h.M.B.ne h.o (by decide)
  have e8 : g ≠ be := h.M.B.ne h.e (by decide)
  have e9 : g ≠ bs := h.M.B.ne h.s (by decide)
  refine (runs1_any g gb bx 22 size _ F z h.M h.O hbm [bg, be, bs] ?_ ?_ ?_ (enters_of Tryd.func22 (by kernel_rfl) rfl)
    (SV F size g gb bg be bw bm bs) (SU F size bg be bs) (fun _ _ _ => False) ?_ ?_ ?_ ?_ ?_ ?_).mono ?_
  · intro x hx
    simp only [List.mem_cons, List.not_mem_nil, or_false] at hx
    rcases hx with rfl | rfl | rfl
    · exact h.o.lt
    · exact h.e.lt
    · exact h.s.lt
  · simp [e7, e8, e9]
  · simp [hm.1, hm.2.1, hm.2.2]
  · rintro n₀ s A B row ⟨gd, en, sm, h1, h2⟩ hg hr
    exact ⟨gd, en, sm, h1.kept hg hr, h2⟩
  · rintro n₀ i A B row ⟨h1, h2, h3⟩ hg hr
    exact ⟨bk_kept h1 hg hr, bk_kept h2 hg hr, bk_kept h3 hg hr⟩
  · rintro n₀ i A B row h1 hg hr
    exact h1
  · intro n₀ W hn hf
    exact ⟨true, -1, 0, h.fr hf, by omega, by omega⟩
  · intro n₀ W hn hf
    have h' := h.fr hf
    exact ⟨h'.o, h'.e, h'.s⟩
  · rintro n₀ x W hn hx hf ⟨gd, en, sm, h1, h2⟩
    refine (sums1_any F size g gb bg be bw bm bs gd en sm x (endN F size x - x) W h1 hx hf rfl h2 hz).mono ?_
    rintro e W' ⟨gd', rfl, hL', hfr, hi⟩
    have hlt : ∀ y ∈ [bg, be, bs], y < n₀ := by
      intro y hy
      simp only [List.mem_cons, List.not_mem_nil, or_false] at hy
      have a1 := h.o.lt
      have a2 := h.e.lt
      have a3 := h.s.lt
      rcases hy with rfl | rfl | rfl <;> omega
    have hsp := endN_spec F (Nat.le_of_lt hx)
    refine ⟨_, rfl, ⟨gd', _, _, hL', by omega, by omega⟩, hfr.kb (fun y hy => .inl hy), hfr.from hlt, fun i hbi hu => ?_⟩
    obtain ⟨u1, u2, u3⟩ := hu
    have e1 : gd = true := by have := bk_same h1.o u1; simpa using this
    have e2 : en = enI F size i := by have := bk_same h1.e u2; simpa using this
    have e3 : sm = (sN F size i : Nat) := by have := bk_same h1.s u3; simpa using this
    obtain ⟨s1, s2, s3, s4⟩ := sums_step hbi
    have hg := hi e1 (by rw [e2]; exact s1) (by rw [e2]; exact s2)
    subst hg
    refine ⟨fun _ => ⟨hL'.o, ?_, ?_⟩, fun h => by cases h⟩
    · have := hL'.e
      rw [s3]
      rw [show (x : Int) + ((endN F size x - x : Nat) : Int) = (endN F size x : Nat) by omega] at this
      exact this
    · have := hL'.s
      have hle : sN F size (i + 1) ≤ 8192 := by
        have hlt := (List.getElem?_eq_some_iff.1 hbi).1
        have hv := sums_inv F size (i + 1) (by omega)
        have := cnt_le F 0 (eN F size (i + 1))
        omega
      rw [e3, show ((sN F size i : Nat) : Int) + ((endN F size x - x : Nat) : Int) = ((sN F size (i + 1) : Nat) : Int) by omega] at this
      have hw : wrap64 ((sN F size (i + 1) : Nat) : Int) = ((sN F size (i + 1) : Nat) : Int) := IntWalk.wrap64_in _ (by omega)
      rw [hw] at this
      exact this
  · rintro e W' ⟨rfl, hkb, n₀, hn, ⟨gd, en, sm, h1, h2⟩, hu⟩
    refine ⟨rfl, hkb.fr, ?_⟩
    rcases hu with ⟨u1, u2, u3⟩ | ⟨i, hi, hF⟩
    · have e1 : gd = true := by have := bk_same h1.o u1; simpa using this
      have e2 : en = enI F size (begs F size).length := by have := bk_same h1.e u2; simpa using this
      have e3 : sm = (sN F size (begs F size).length : Nat) := by have := bk_same h1.s u3; simpa using this
      rw [e1, e2, e3] at h1
      exact h1
    · exact hF.elim

theorem cnt_cut (F : Nat → Bool) (size : Nat) {a m b : Int} (h1 : a ≤ m) (h2 : m ≤ b) : cntI F size a m + cntI F size m b = cntI F size a b := by
  unfold cntI
  have e1 : lowI a ≤ lowI m := by unfold lowI; omega
  have e2 : highI m size ≤ highI b size := by unfold highI; split <;> split <;> omega
  have e3 : highI m size = min (lowI m) size := by unfold highI lowI; split <;> omega
  rcases Nat.lt_or_ge (lowI m) size with hm | hm
  · have hh : highI m size = lowI m := by omega
    rw [hh] at e2 ⊢
    have := cnt_add F (lowI a) (lowI m - lowI a) (highI b size - lowI m)
    rw [show lowI a + (lowI m - lowI a) = lowI m by omega, show lowI m - lowI a + (highI b size - lowI m) = highI b size - lowI a by omega] at this
    omega
  · have hb : highI b size ≤ size := by unfold highI; split <;> omega
    rw [show highI b size - lowI m = 0 by omega, show highI m size = highI b size by omega]
    rfl

set_option maxRecDepth 100000 in
theorem sums_none (words a b c : Int) (A1 : Option Addr) (n1 c1 : Nat) (l1 : List Int) (w : World) (hw : ¬ (0 ≤ words ∧ words ≤ 8192)) (hO : On w) :
    Calls Tryd.prog 4 #[.int .i64 words, .slice A1 n1 c1, .int .i64 a, .int .i64 b, .int .i64 c] w fun e w' => e = .returned (.bool true) ∧ Fr [] w w' := by
  obtain ⟨wa, hwa⟩ : ∃ wa, wa = w.alloc (.cells #[.int .i64 words] 3) := ⟨_, rfl⟩
  have hfa : Fr [] w wa := by rw [hwa]; exact (Fr.refl _ _).alloc _
  have hba : Bk wa w.heap.size 3 #[.int .i64 words] := by rw [hwa]; exact Bk.new _ _ _
  have HWA := Lib.hid hwa
  have HFA := Lib.hid hfa
  have HBA := Lib.hid hba
  have HO := Lib.hid (hO.fr hfa (by simp))
  clear hO hwa hfa hba
  go_enter Tryd.func4, Tryd.ntmps4
  go_upto_region 1 with fail
  rw [← HWA.out]
  go_wp2_with fail
  refine (known_any wa HO.out).mono ?_
  rintro e w1 ⟨rfl, hf1⟩
  have HF1 := Lib.hid (HFA.out.trans hf1 (by simp))
  have c0 : w1.cell? ⟨w.heap.size, 0, none⟩ = some (.int .i64 words) := (HBA.out.fr hf1 (by simp)).cell 0
  clear hf1
  go_wp2_with fail
  refine (filled_none words A1 n1 c1 l1 w1 hw).mono ?_
  rintro e w2 ⟨rfl, hf2⟩
  have HF2 := Lib.hid (HF1.out.trans hf2 (by simp))
  clear hf2 c0
  have c1 := (Bk.new w2 24 #[.pointer none]).cell 0
  go_wp2_with fail
  go_ret
  exact ⟨rfl, HF2.out.alloc _⟩

set_option maxRecDepth 100000 in
set_option maxHeartbeats 3200000 in
theorem sums_good (words : Nat) (a b c : Int) (A1 : Option Addr) (n1 c1 : Nat) (l1 : List Int) (w : World) (hw : words ≤ 8192) (h1 : n1 = l1.length) (r1 : RdI w A1 l1) (b1 : ∀ x ∈ l1, x ≤ 9223372036854775807) (hO : On w) :
    Calls Tryd.prog 4 #[.int .i64 words, .slice A1 n1 c1, .int .i64 a, .int .i64 b, .int .i64 c] w fun e w' => e = .returned (.bool true) ∧ Fr [] w w' := by
  obtain ⟨wa, hwa⟩ : ∃ wa, wa = w.alloc (.cells #[.int .i64 words] 3) := ⟨_, rfl⟩
  have hfa : Fr [] w wa := by rw [hwa]; exact (Fr.refl _ _).alloc _
  have hba : Bk wa w.heap.size 3 #[.int .i64 words] := by rw [hwa]; exact Bk.new _ _ _
  have HWA := Lib.hid hwa
  have HFA := Lib.hid hfa
  have HBA := Lib.hid hba
  have hlt0 := hO.lt
  have HO := Lib.hid (hO.fr hfa (by simp))
  have HR := Lib.hid (And.intro h1 (And.intro (r1.fr hfa (by simp)) b1))
  clear hO hwa hfa hba h1 r1 b1
  go_enter Tryd.func4, Tryd.ntmps4
  go_upto_region 1 with fail
  rw [← HWA.out]
  go_wp2_with fail
  refine (known_any wa HO.out).mono ?_
  rintro e w1 ⟨rfl, hf1⟩
  have HF1 := Lib.hid hf1
  have HFa1 := Lib.hid (HFA.out.trans hf1 (by simp))
  have HBA1 := Lib.hid (HBA.out.fr hf1 (by simp))
  have c0 : w1.cell? ⟨w.heap.size, 0, none⟩ = some (.int .i64 words) := HBA1.out.cell 0
  clear hf1
  go_wp2_with fail
  refine (filled_some words A1 n1 c1 l1 w1 hw HR.out.1 (HR.out.2.1.fr HF1.out (by simp)) HR.out.2.2 (HO.out.fr HF1.out (by simp))).mono ?_
  rintro e w2 ⟨g, gb, rfl, hf2, hg, hgb, hM⟩
  obtain ⟨F, hF⟩ : ∃ F, fillF words l1 (pairsN l1) = F := ⟨_, rfl⟩
  rw [hF] at hM
  obtain ⟨w3, hw3⟩ : ∃ w3, w3 = w2.alloc (.cells #[.pointer (some ⟨g, 0, none⟩)] 24) := ⟨_, rfl⟩
  have hf3 : Fr [] w2 w3 := by rw [hw3]; exact (Fr.refl _ _).alloc _
  have hb3 : Bk w3 w2.heap.size 24 #[.pointer (some ⟨g, 0, none⟩)] := by rw [hw3]; exact Bk.new _ _ _
  have HM := Lib.hid (hM.fr hf3 (by simp) (by simp))
  have HFw := Lib.hid ((HFa1.out.trans hf2 (by simp)).trans hf3 (by simp))
  have HB3 := Lib.hid hb3
  have HBW := Lib.hid ((HBA1.out.fr hf2 (by simp)).fr hf3 (by simp))
  have HO3 := Lib.hid (HO.out.fr ((HF1.out.trans hf2 (by simp)).trans hf3 (by simp)) (by simp))
  have HW3 := Lib.hid hw3
  have hq2 := hf2.size
  have hq1 := HFa1.out.size
  have hq0 := HBA1.out.lt
  clear hf2 hg hgb hM hF hw3 hf3 hb3 HR HF1 HFa1 HBA1 c0 HFA HBA HO
  go_upto_region 4 with fail
  change Code.wp _ _ _ _ (w2.alloc (.cells #[.pointer (some ⟨g, 0, none⟩)] 24))
  rw [← HW3.out]
  have c1 : w3.cell? ⟨w2.heap.size, 0, none⟩ = some (.pointer (some ⟨g, 0, none⟩)) := HB3.out.cell 0
  have c2 : w3.cell? ⟨w.heap.size, 0, none⟩ = some (.int .i64 words) := HBW.out.cell 0
  go_upto_region 6 with fail
  go_cut [54] (fun v wx => v = .bool false ∧ ∃ n, wx = w3.drewN n)
  case first =>
    obtain ⟨X, hX⟩ : ∃ X, cntI F words a b = X := ⟨_, rfl⟩
    obtain ⟨Y, hY⟩ : ∃ Y, cntI F words b c = Y := ⟨_, rfl⟩
    obtain ⟨Z, hZ⟩ : ∃ Z, cntI F words a c = Z := ⟨_, rfl⟩
    have hq : ∀ p q N, cntI F words p q = N → ∀ n, Calls Tryd.prog 20 #[.pointer (some ⟨g, 0, none⟩), .int .i64 p, .int .i64 q] (w3.drewN n) fun e w' => e = .returned (.int .i64 (N : Nat)) ∧ ∃ m, w' = (w3.drewN n).drewN m := fun p q N hN n => by
      rw [← hN]
      exact countm_any g gb words F p q _ (HM.out.fr ((Fr.refl [] _).drewN n) (by simp) (by simp)) (HO3.out.drewN n)
    have H1 := Lib.hid (hq a b X hX)
    have H2 := Lib.hid (hq b c Y hY)
    have H3 := Lib.hid (hq a c Z hZ)
    have hXl : X ≤ 8192 := by rw [← hX]; unfold cntI; have := cnt_le F (lowI a) (highI b words - lowI a); have : highI b words ≤ words := by unfold highI; split <;> omega
                              omega
    have hYl : Y ≤ 8192 := by rw [← hY]; unfold cntI; have := cnt_le F (lowI b) (highI c words - lowI b); have : highI c words ≤ words := by unfold highI; split <;> omega
                              omega
    have hsum : a ≤ b → b ≤ c → X + Y = Z := fun h1 h2 => by rw [← hX, ← hY, ← hZ]; exact cnt_cut F words h1 h2
    clear hX hY hZ hq
    by_cases h1 : a ≤ b
    · by_cases h2 : b ≤ c
      · have hs := hsum h1 h2
        have d1 : decide (a ≤ b) = true := decide_eq_true h1
        have d2 : decide (b ≤ c) = true := decide_eq_true h2
        have sw : IntKind.i64.wrap ((X : Int) + (Y : Int)) = (X : Int) + (Y : Int) := IntWalk.i64_in _ (by omega)
        have sx : ((X : Int) + (Y : Int) != (Z : Int)) = false := by simp; omega
        clear hsum hs h1 h2
        go_quiet ((go_at_call 20; (first | (with_reducible exact quiet_add (H1.out _)) | (with_reducible exact quiet_zero (H1.out _)) | (with_reducible exact quiet_add (H2.out _)) | (with_reducible exact quiet_zero (H2.out _)) | (with_reducible exact quiet_add (H3.out _)) | (with_reducible exact quiet_zero (H3.out _)))))
        go_wp2_with fail
        go_meet
        case rel => exact ⟨rfl, _, rfl⟩
      · have d1 : decide (a ≤ b) = true := decide_eq_true h1
        have d2 : decide (b ≤ c) = false := decide_eq_false h2
        clear hsum h1 h2
        go_quiet (fail)
        go_wp2_with fail
        go_meet
        case rel => exact ⟨rfl, _, rfl⟩
    · have d1 : decide (a ≤ b) = false := decide_eq_false h1
      clear hsum h1
      go_quiet (fail)
      go_wp2_with fail
      go_meet
      case rel => exact ⟨rfl, _, rfl⟩
  obtain ⟨rfl, nq, hwx⟩ := hcut
  rename_i wc
  have hfc : Fr [] w3 wc := by rw [hwx]; exact (Fr.refl _ _).drewN _
  have HMc := Lib.hid (HM.out.fr hfc (by simp) (by simp))
  have HFc := Lib.hid (HFw.out.trans hfc (by simp))
  have HBc := Lib.hid (HB3.out.fr hfc (by simp))
  have HBWc := Lib.hid (HBW.out.fr hfc (by simp))
  have HOc := Lib.hid (HO3.out.fr hfc (by simp))
  clear hwx hfc HM HFw HB3 HBW HO3 c1 c2 HW3
  obtain ⟨z, hz⟩ : ∃ z, z = ((wc.alloc (.cells #[.int .i64 0] 3)).alloc (.cells #[.int .i64 (-1)] 3)).alloc (.cells #[.bool true] 4) := ⟨_, rfl⟩
  have hfz : Fr [] wc z := by rw [hz]; exact (((Fr.refl _ _).alloc _).alloc _).alloc _
  have hbs : Bk z wc.heap.size 3 #[.int .i64 0] := by rw [hz]; exact ((Bk.new _ _ _).alloc _).alloc _
  have hbe : Bk z (wc.heap.size + 1) 3 #[.int .i64 (-1)] := by rw [hz]; exact (Bk.new_at _ _ _ _ (by simp)).alloc _
  have hbg : Bk z (wc.heap.size + 1 + 1) 4 #[.bool true] := by rw [hz]; exact Bk.new_at _ _ _ _ (by simp)
  have q1 := HBc.out.lt
  have q2 := HBWc.out.lt
  have q3 := HOc.out.lt
  have hL : LitS z F words g gb (wc.heap.size + 1 + 1) (wc.heap.size + 1) w.heap.size w2.heap.size wc.heap.size true (-1) 0 :=
    ⟨hbg, hbe, HBWc.out.fr hfz (by simp), HBc.out.fr hfz (by simp), hbs, HMc.out.fr hfz (by simp) (by simp), HOc.out.fr hfz (by simp), by omega, by omega⟩
  have HFz := Lib.hid (HFc.out.trans hfz (by simp))
  have HL := Lib.hid hL
  have HZ := Lib.hid hz
  have c1 : z.cell? ⟨w2.heap.size, 0, none⟩ = some (.pointer (some ⟨g, 0, none⟩)) := hL.m.cell 0
  have qz := hbg.lt
  clear hz hfz hbs hbe hbg hL HMc HFc HBc HBWc HOc
  go_upto_region 11 with fail
  rw [← HZ.out]
  go_wp2_with fail
  refine (runs_any g z).mono ?_
  rintro e w5 ⟨rfl, hw5⟩
  have hf5 : Fr [] z w5 := by rw [hw5]; exact (Fr.refl _ _).alloc _
  have hbx : Bk w5 z.heap.size 24 #[.pointer (some ⟨g, 0, none⟩)] := by rw [hw5]; exact Bk.new _ _ _
  have HRS := Lib.hid (runs_sums F words g gb (wc.heap.size + 1 + 1) (wc.heap.size + 1) w.heap.size w2.heap.size wc.heap.size z.heap.size w5 (HL.out.fr hf5) (hbx.cell 0) hw (by omega))
  have HF5 := Lib.hid (HFz.out.trans hf5 (by simp))
  have qwc : w.heap.size ≤ wc.heap.size := by omega
  clear hw5 hf5 hbx c1
  go_wp2_with fail
  refine (Calls.mono HRS.out ?_)
  rintro e w6 ⟨rfl, hf6, hL6⟩
  have HF6 := Lib.hid (HF5.out.trans hf6 (fun x hx => .inr (by simp at hx; omega)))
  obtain ⟨s1, s2⟩ := sums_end F words
  obtain ⟨N, hN⟩ : ∃ N, cntI F words 0 words = N := ⟨_, rfl⟩
  obtain ⟨E, hE⟩ : ∃ E, enI F words (begs F words).length = E := ⟨_, rfl⟩
  have hEl : E ≤ 9223372036854775807 := by
    have := enI_in F words (Nat.le_refl (begs F words).length)
    omega
  rw [s2, hN, hE] at hL6
  rw [hE] at s1
  have H1 : Hid (∀ n, Calls Tryd.prog 20 #[.pointer (some ⟨g, 0, none⟩), .int .i64 0, .int .i64 words] (w6.drewN n) fun e w' => e = .returned (.int .i64 (N : Nat)) ∧ ∃ m, w' = (w6.drewN n).drewN m) := fun n => by
    rw [← hN]
    exact countm_any g gb words F 0 words _ (hL6.M.fr ((Fr.refl [] _).drewN n) (by simp) (by simp)) (hL6.O.drewN n)
  have H2 : Hid (∀ n, Calls Tryd.prog 23 #[.pointer (some ⟨g, 0, none⟩), .int .i64 E] (w6.drewN n) fun e w' => e = .returned (.int .i64 (-1)) ∧ ∃ m, w' = (w6.drewN n).drewN m) := fun n => by
    rw [← s1]
    exact nextm_any g gb words F E _ hEl (hL6.M.fr ((Fr.refl [] _).drewN n) (by simp) (by simp))
  have d1 : w6.cell? ⟨wc.heap.size + 1 + 1, 0, none⟩ = some (.bool true) := hL6.o.cell 0
  have d2 : w6.cell? ⟨wc.heap.size + 1, 0, none⟩ = some (.int .i64 E) := hL6.e.cell 0
  have d3 : w6.cell? ⟨wc.heap.size, 0, none⟩ = some (.int .i64 (N : Nat)) := hL6.s.cell 0
  have d4 : w6.cell? ⟨w.heap.size, 0, none⟩ = some (.int .i64 words) := hL6.w.cell 0
  have d5 : w6.cell? ⟨w2.heap.size, 0, none⟩ = some (.pointer (some ⟨g, 0, none⟩)) := hL6.m.cell 0
  have xx : ((N : Int) == (N : Int)) = true := by simp
  clear hf6 hL6 s1 s2 hN hE
  go_upto_region 12 with fail
  go_quiet ((first | (go_at_call 20; (first | (with_reducible exact quiet_add (H1.out _)) | (with_reducible exact quiet_zero (H1.out _)))) | (go_at_call 23; (first | (with_reducible exact quiet_add (H2.out _)) | (with_reducible exact quiet_zero (H2.out _))))))
  go_wp2_with fail
  go_ret
  exact ⟨rfl, HF6.out.drewN _⟩
end Go.Proofs.YtheiacfdbhjbmaaDoor
