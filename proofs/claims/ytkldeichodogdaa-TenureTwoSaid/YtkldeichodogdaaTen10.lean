/-
  TenureTwo's walk.
-/
import Derived.Test.YtkldeichodogdaaTen9
namespace Go.Proofs.Ytkldeichodogdaa
open Go.RowKit Ten

theorem two_no (s t m : Int) (v : Value) (w : World) (h : s < 1 ∨ 65536 < s ∨ t < 1 ∨ 100 < t ∨ m < 1 ∨ 15 < m) :
    Calls Try.prog 7 #[.int .i64 s, .int .i64 t, .int .i64 m, v] w fun e w' => e = .returned (.bool true) ∧ Fr [] w w' := by
  have H := Lib.hid h
  clear h
  go_enter Try.func7, Try.ntmps7
  go_wp2_with fail
  refine (begin_no _ _ _ _ H.out).mono ?_
  rintro e w1 ⟨rfl, rfl⟩
  go_wp2_with fail
  refine (begin_ok 64 50 4 _ (by omega) (by omega) (by omega) (by omega) (by omega) (by omega)).mono ?_
  rintro e w1 ⟨g, h, b, rfl, _, _, _, _, _, hf⟩
  have HF := Lib.hid hf
  clear hf
  go_wp2_with fail
  go_ret
  exact ⟨rfl, HF.out⟩

theorem rthreshold_hist {g b : Nat} {wanted most : Int} {l : List Int} {p : Nat → Int} {many : Int} {w : World} (h : RIs w g b wanted most l) (hh : Hist p many l) :
    Calls Try.prog 16 #[.pointer (some ⟨g, 0, none⟩)] w fun e w' => e = .returned (.int .i64 (p 15)) ∧ Fr [] w w' := by
  rw [hh.last] at h
  exact rthreshold_any g b wanted most l.dropLast (p 15) w h

set_option maxRecDepth 100000 in
theorem two_ok (s t : Int) (m : Nat) (A : Option Addr) (n c : Nat) (F : Nat → Nat → Int) (w : World) (hT : Turns w A n F) (h1 : 1 ≤ s) (h2 : s ≤ 65536) (h3 : 1 ≤ t) (h4 : t ≤ 100) (h5 : 1 ≤ m) (h6 : m ≤ 15) :
    Calls Try.prog 7 #[.int .i64 s, .int .i64 t, .int .i64 m, .slice A n c] w fun e w' => e = .returned (.bool true) ∧ Fr [] w w' := by
  have hn := hT.1
  have HT := Lib.hid hT
  clear hT
  obtain ⟨hm1, hm2⟩ := mul_le h1 h2 h3 h4
  have hmul : s * t / 100 ≤ s := by
    have := Int.mul_le_mul_of_nonneg_left h4 (show 0 ≤ s by omega)
    omega
  go_enter Try.func7, Try.ntmps7
  go_wp2_with fail
  refine (begin_ok _ _ _ _ h1 h2 h3 h4 (by omega) (by omega)).mono ?_
  rintro e w1 ⟨g, h, b, rfl, hg, hh, hb, hB, hR, hF⟩
  have HI : Hid (Pair w1 g h (s * t / 100) m (past0 m) 1 b [(m : Int)] ∧ w.heap.size ≤ g ∧ w.heap.size ≤ h ∧ w.heap.size ≤ b ∧ Fr [] w w1) :=
    ⟨⟨hB, hR, by omega, by omega, h5, h6, by omega, by omega⟩, hg, hh, hb, hF⟩
  clear hB hR hF hg hh hb
  go_wp2_with fail
  refine (begin_ok 64 50 4 _ (by omega) (by omega) (by omega) (by omega) (by omega) (by omega)).mono ?_
  rintro e w2 ⟨g', h', b', rfl, hg, hh, hb, hB, hR, hF⟩
  have HT2 : Hid (RelTwo w g h (s * t / 100) m g' h' (64 * 50 / 100) 4 0 w2) := by
    obtain ⟨hP, i1, i2, i3, hF1⟩ := HI.out
    have l1 := hP.T.lt
    obtain ⟨l2, l3⟩ := hP.R.lt
    exact ⟨_, _, b, _, past0 4, 1, b', [4], ⟨hP.fr hF (by simp) (by simp) (by simp), Hist.first _, ⟨hB, hR, by omega, by omega, by omega, by omega, by omega, by omega⟩, Hist.first _, by simp, by simp,
      i1, i2, i3, by omega, by omega, by omega, by omega, by omega, by omega, hF1.trans hF (by simp)⟩⟩
  have hwn : (0 : Int) ≤ 64 * 50 / 100 := by omega
  clear hB hR hF hg hh hb
  go_wp2_with fail
  generalize (64 * 50 / 100 : Int) = wn at *
  go_loopw [15] (fun i wr => ∃ k : Nat, k ≤ 200 ∧ k ≤ n ∧ i = .int .i64 k ∧ RelTwo w g h (s * t / 100) m g' h' wn 4 k wr) (fun i _ => 200 - (intOf i).toNat)
  case atStart => exact ⟨0, by omega, by omega, rfl, HT2.out⟩
  case round =>
    obtain ⟨k, hk, hkn, rfl, p, many, b1, l, p', many', b1', l', hTwo⟩ := hrel
    have HW := Lib.hid hTwo
    clear hTwo
    by_cases hlt : k < n ∧ k < 200
    · obtain ⟨hl1, hl2⟩ := hlt
      obtain ⟨bT, oT, rfl, hbT, hrT⟩ := HT.out.2 (by omega)
      have hrak : ∀ W, Fr [] w W → W.rangeAt bT (oT + k * 16) (arr16 (F k)).toList := fun W hf j v hv => (World.cell?_of_block (hf.block bT hbT (by simp))).trans (hrT k hl1 j v hv)
      have HRA := Lib.hid hrak
      clear hrak hrT
      by_cases h3 : k % 3 = 0 <;> by_cases hok : okW (F k) <;> (have HOK := Lib.hid hok; clear hok)
      · have hb3 : (((k : Int) % 3) == 0) = true := by rw [beq_iff_eq]; omega
        go_wp2_with (refine wpList_load_mid rfl 31 _ rfl bT (oT + k * 16) rfl (arr16 (F k)).toList _ (HRA.out _ HW.out.F) Try.underlying31 rfl (by kernel_rfl) ?_)
        refine (turn_ok (F k) g' wn 4 p' many' wr (HW.out.swap).P.T HOK.out (HW.out.swap).P.w0 (HW.out.swap).P.w1 (HW.out.swap).P.m0 (HW.out.swap).P.m1 (by have := (HW.out.swap).P.n0; omega) (HW.out.swap).P.n1).mono ?_
        rintro e w3 ⟨rfl, hB, hf⟩
        have HF3 : Hid (Fr [] w w3) := HW.out.F.trans hf (by have := (HW.out.swap).hg; simp; omega)
        have hne : h' ∉ [g'] ∧ b1' ∉ [g'] := by have := (HW.out.swap).P.ne; simp [this.1.symm, this.2.symm]
        have HR3 : Hid (RIs w3 h' b1' wn 4 l') := (HW.out.swap).P.R.fr hf hne.1 hne.2
        have HB := Lib.hid hB
        have HFF := Lib.hid hf
        have hlen := (HW.out.swap).len
        clear hB hf hne
        go_wp2_with (refine wpList_load_mid rfl 31 _ rfl bT (oT + k * 16) rfl (arr16 (F k)).toList _ (HRA.out _ HF3.out) Try.underlying31 rfl (by kernel_rfl) ?_)
        refine (rturn_ok (F k) h' b1' wn 4 l' w3 HR3.out (by omega) HOK.out (HW.out.swap).P.w0 (HW.out.swap).P.w1 (HW.out.swap).P.m0 (HW.out.swap).P.m1).mono ?_
        rintro e w4 ⟨b2, rfl, hR, hb2, hf⟩
        have HX := Lib.hid (((HW.out.swap).turned HB.out HFF.out hR hb2 hf)).swap
        clear hR hb2 hf HB HFF HF3 HR3 hlen
        go_wp2_with fail
        refine (threshold_any _ _ _ _ _ _ HX.out.P.T).mono ?_
        rintro e w5 ⟨rfl, rfl⟩
        go_wp2_with fail
        refine (threshold_any _ _ _ _ _ _ HX.out.P'.T).mono ?_
        rintro e w5 ⟨rfl, rfl⟩
        go_wp2_with fail
        refine (rthreshold_hist HX.out.P.R HX.out.H).mono ?_
        rintro e w5 ⟨rfl, hf⟩
        have HX5 := Lib.hid (HX.out.quiet hf)
        clear hf
        go_wp2_with fail
        refine (rthreshold_hist HX5.out.P'.R HX5.out.H').mono ?_
        rintro e w6 ⟨rfl, hf⟩
        have HX6 := Lib.hid (HX5.out.quiet hf)
        clear hf
        go_wp2_with fail
        go_roundw
        case rel => exact ⟨k + 1, by omega, by omega, by go_num, _, _, _, _, _, _, _, _, HX6.out⟩
        case measure => simp [intOf]; omega
      · have hb3 : (((k : Int) % 3) == 0) = true := by rw [beq_iff_eq]; omega
        go_wp2_with (refine wpList_load_mid rfl 31 _ rfl bT (oT + k * 16) rfl (arr16 (F k)).toList _ (HRA.out _ HW.out.F) Try.underlying31 rfl (by kernel_rfl) ?_)
        refine (turn_bad (F k) g' wn _ p' many' wr (HW.out.swap).P.T HOK.out).mono ?_
        rintro e w3 ⟨rfl, hf⟩
        have HX3 := Lib.hid (HW.out.quiet hf)
        clear hf
        go_wp2_with (refine wpList_load_mid rfl 31 _ rfl bT (oT + k * 16) rfl (arr16 (F k)).toList _ (HRA.out _ HX3.out.F) Try.underlying31 rfl (by kernel_rfl) ?_)
        refine (rturn_bad (F k) h' w3 HOK.out).mono ?_
        rintro e w4 ⟨rfl, hf⟩
        have HX := Lib.hid (HX3.out.quiet hf).more
        clear hf
        go_wp2_with fail
        refine (threshold_any _ _ _ _ _ _ HX.out.P.T).mono ?_
        rintro e w5 ⟨rfl, rfl⟩
        go_wp2_with fail
        refine (threshold_any _ _ _ _ _ _ HX.out.P'.T).mono ?_
        rintro e w5 ⟨rfl, rfl⟩
        go_wp2_with fail
        refine (rthreshold_hist HX.out.P.R HX.out.H).mono ?_
        rintro e w5 ⟨rfl, hf⟩
        have HX5 := Lib.hid (HX.out.quiet hf)
        clear hf
        go_wp2_with fail
        refine (rthreshold_hist HX5.out.P'.R HX5.out.H').mono ?_
        rintro e w6 ⟨rfl, hf⟩
        have HX6 := Lib.hid (HX5.out.quiet hf)
        clear hf
        go_wp2_with fail
        go_roundw
        case rel => exact ⟨k + 1, by omega, by omega, by go_num, _, _, _, _, _, _, _, _, HX6.out⟩
        case measure => simp [intOf]; omega
      · have hb3 : (((k : Int) % 3) == 0) = false := by rw [beq_eq_false_iff_ne]; omega
        go_wp2_with (refine wpList_load_mid rfl 31 _ rfl bT (oT + k * 16) rfl (arr16 (F k)).toList _ (HRA.out _ HW.out.F) Try.underlying31 rfl (by kernel_rfl) ?_)
        refine (turn_ok (F k) g (s * t / 100) m p many wr (HW.out).P.T HOK.out (HW.out).P.w0 (HW.out).P.w1 (HW.out).P.m0 (HW.out).P.m1 (by have := (HW.out).P.n0; omega) (HW.out).P.n1).mono ?_
        rintro e w3 ⟨rfl, hB, hf⟩
        have HF3 : Hid (Fr [] w w3) := HW.out.F.trans hf (by have := (HW.out).hg; simp; omega)
        have hne : h ∉ [g] ∧ b1 ∉ [g] := by have := (HW.out).P.ne; simp [this.1.symm, this.2.symm]
        have HR3 : Hid (RIs w3 h b1 (s * t / 100) m l) := (HW.out).P.R.fr hf hne.1 hne.2
        have HB := Lib.hid hB
        have HFF := Lib.hid hf
        have hlen := (HW.out).len
        clear hB hf hne
        go_wp2_with (refine wpList_load_mid rfl 31 _ rfl bT (oT + k * 16) rfl (arr16 (F k)).toList _ (HRA.out _ HF3.out) Try.underlying31 rfl (by kernel_rfl) ?_)
        refine (rturn_ok (F k) h b1 (s * t / 100) m l w3 HR3.out (by omega) HOK.out (HW.out).P.w0 (HW.out).P.w1 (HW.out).P.m0 (HW.out).P.m1).mono ?_
        rintro e w4 ⟨b2, rfl, hR, hb2, hf⟩
        have HX := Lib.hid ((HW.out).turned HB.out HFF.out hR hb2 hf)
        clear hR hb2 hf HB HFF HF3 HR3 hlen
        go_wp2_with fail
        refine (threshold_any _ _ _ _ _ _ HX.out.P.T).mono ?_
        rintro e w5 ⟨rfl, rfl⟩
        go_wp2_with fail
        refine (threshold_any _ _ _ _ _ _ HX.out.P'.T).mono ?_
        rintro e w5 ⟨rfl, rfl⟩
        go_wp2_with fail
        refine (rthreshold_hist HX.out.P.R HX.out.H).mono ?_
        rintro e w5 ⟨rfl, hf⟩
        have HX5 := Lib.hid (HX.out.quiet hf)
        clear hf
        go_wp2_with fail
        refine (rthreshold_hist HX5.out.P'.R HX5.out.H').mono ?_
        rintro e w6 ⟨rfl, hf⟩
        have HX6 := Lib.hid (HX5.out.quiet hf)
        clear hf
        go_wp2_with fail
        go_roundw
        case rel => exact ⟨k + 1, by omega, by omega, by go_num, _, _, _, _, _, _, _, _, HX6.out⟩
        case measure => simp [intOf]; omega
      · have hb3 : (((k : Int) % 3) == 0) = false := by rw [beq_eq_false_iff_ne]; omega
        go_wp2_with (refine wpList_load_mid rfl 31 _ rfl bT (oT + k * 16) rfl (arr16 (F k)).toList _ (HRA.out _ HW.out.F) Try.underlying31 rfl (by kernel_rfl) ?_)
        refine (turn_bad (F k) g (s * t / 100) _ p many wr (HW.out).P.T HOK.out).mono ?_
        rintro e w3 ⟨rfl, hf⟩
        have HX3 := Lib.hid (HW.out.quiet hf)
        clear hf
        go_wp2_with (refine wpList_load_mid rfl 31 _ rfl bT (oT + k * 16) rfl (arr16 (F k)).toList _ (HRA.out _ HX3.out.F) Try.underlying31 rfl (by kernel_rfl) ?_)
        refine (rturn_bad (F k) h w3 HOK.out).mono ?_
        rintro e w4 ⟨rfl, hf⟩
        have HX := Lib.hid (HX3.out.quiet hf).more
        clear hf
        go_wp2_with fail
        refine (threshold_any _ _ _ _ _ _ HX.out.P.T).mono ?_
        rintro e w5 ⟨rfl, rfl⟩
        go_wp2_with fail
        refine (threshold_any _ _ _ _ _ _ HX.out.P'.T).mono ?_
        rintro e w5 ⟨rfl, rfl⟩
        go_wp2_with fail
        refine (rthreshold_hist HX.out.P.R HX.out.H).mono ?_
        rintro e w5 ⟨rfl, hf⟩
        have HX5 := Lib.hid (HX.out.quiet hf)
        clear hf
        go_wp2_with fail
        refine (rthreshold_hist HX5.out.P'.R HX5.out.H').mono ?_
        rintro e w6 ⟨rfl, hf⟩
        have HX6 := Lib.hid (HX5.out.quiet hf)
        clear hf
        go_wp2_with fail
        go_roundw
        case rel => exact ⟨k + 1, by omega, by omega, by go_num, _, _, _, _, _, _, _, _, HX6.out⟩
        case measure => simp [intOf]; omega
    · obtain ⟨mn, rfl⟩ : ∃ mn : Nat, many = mn := ⟨many.toNat, by have := HW.out.P.n0; omega⟩
      obtain ⟨mn', rfl⟩ : ∃ mn' : Nat, many' = mn' := ⟨many'.toNat, by have := HW.out.P'.n0; omega⟩
      have hs1 : Hid (lastOf p mn = lastL l) := HW.out.H.same
      have hs2 : Hid (lastOf p' mn' = lastL l') := HW.out.H'.same
      go_wp2_with fail
      all_goals
        refine (history_any g _ _ p mn wr HW.out.P.T (by have := HW.out.P.n0; omega) (by have := HW.out.P.n1; omega)).mono ?_
        rw [hs1.out]
        rintro e w3 ⟨A1, c1, rfl, hR, _, hf⟩
        have HX := Lib.hid (HW.out.quiet hf)
        have HR1 := Lib.hid hR
        clear hR hf
        go_wp2_with fail
        refine (rhistory_any h b1 _ _ l _ HX.out.P.R HX.out.H.pos (by have := HX.out.len; omega)).mono ?_
        rintro e w4 ⟨A2, c2, rfl, hR, _, hf⟩
        have HX4 := Lib.hid (HX.out.quiet hf)
        have HR1 := Lib.hid (HR1.out.fr hf (by simp))
        have HR2 := Lib.hid hR
        clear hR hf
        go_wp2_with fail
        refine (same_yes A1 A2 (lastL l) _ c1 c2 _ rfl HR1.out HR2.out).mono ?_
        rintro e w5 ⟨rfl, hf⟩
        have HX5 := Lib.hid (HX4.out.quiet hf)
        clear hf
        go_wp2_with fail
        refine (history_any g' _ _ p' mn' _ HX5.out.P'.T (by have := HW.out.P'.n0; omega) (by have := HW.out.P'.n1; omega)).mono ?_
        rw [hs2.out]
        rintro e w6 ⟨A3, c3, rfl, hR, _, hf⟩
        have HX6 := Lib.hid (HX5.out.quiet hf)
        have HR3 := Lib.hid hR
        clear hR hf
        go_wp2_with fail
        refine (rhistory_any h' b1' _ _ l' _ HX6.out.P'.R HX6.out.H'.pos (by have := HX6.out.len'; omega)).mono ?_
        rintro e w7 ⟨A4, c4, rfl, hR, _, hf⟩
        have HX7 := Lib.hid (HX6.out.quiet hf)
        have HR3 := Lib.hid (HR3.out.fr hf (by simp))
        have HR4 := Lib.hid hR
        clear hR hf
        go_wp2_with fail
        refine (same_yes A3 A4 (lastL l') _ c3 c4 _ rfl HR3.out HR4.out).mono ?_
        rintro e w8 ⟨rfl, hf⟩
        have HX8 := Lib.hid (HX7.out.quiet hf)
        clear hf
        go_wp2_with fail
        go_ret
        exact ⟨rfl, HX8.out.F⟩
end Go.Proofs.Ytkldeichodogdaa
