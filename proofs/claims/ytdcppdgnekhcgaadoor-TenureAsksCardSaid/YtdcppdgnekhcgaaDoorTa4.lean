/-
  Tenure: TenureAsks' walk.
-/
import Derived.Test.YtdcppdgnekhcgaaDoorTa3
import Derived.Great.BuildSlice
import Derived.Great.Ranges
namespace Go.Proofs.YtdcppdgnekhcgaaDoor
open Go.RowKit Ten
set_option linter.unusedVariables false

theorem asks_no (s t m age : Int) (v : Value) (w : World) (h : s < 1 ∨ 65536 < s ∨ t < 1 ∨ 100 < t ∨ m < 1 ∨ 15 < m) :
    Calls Tryd.prog 3 #[.int .i64 s, .int .i64 t, .int .i64 m, v, .int .i64 age] w fun e w' => e = .returned (.bool true) ∧ Fr [] w w' := by
  have H := Lib.hid h
  clear h
  go_enter Tryd.func3, Tryd.ntmps3
  go_wp2_with fail
  refine (begin_no _ _ _ _ H.out).mono ?_
  rintro e w1 ⟨rfl, rfl⟩
  go_wp2_with fail
  go_ret
  exact ⟨rfl, Fr.refl _ _⟩

set_option maxRecDepth 100000 in
theorem book_built : Tryd.prog.built 43 [] = some (bookA (S0 0)) := by kernel_rfl

set_option maxHeartbeats 4000000 in
set_option maxRecDepth 100000 in
theorem asks_ok (s t age : Int) (m : Nat) (A : Option Addr) (n c : Nat) (F : Nat → Nat → Int) (w : World) (hT : Turns w A n F) (h1 : 1 ≤ s) (h2 : s ≤ 65536) (h3 : 1 ≤ t) (h4 : t ≤ 100) (h5 : 1 ≤ m) (h6 : m ≤ 15) :
    Calls Tryd.prog 3 #[.int .i64 s, .int .i64 t, .int .i64 m, .slice A n c, .int .i64 age] w fun e w' => e = .returned (.bool true) ∧ Fr [] w w' := by
  have hn := hT.1
  have HT := Lib.hid hT
  clear hT
  obtain ⟨hm1, hm2⟩ := mul_le h1 h2 h3 h4
  have hmul : s * t / 100 ≤ s := by
    have := Int.mul_le_mul_of_nonneg_left h4 (show 0 ≤ s by omega)
    omega
  have hmul0 : 0 ≤ s * t / 100 := by omega
  have hmul1 : s * t / 100 ≤ 65536 := by omega
  go_enter Tryd.func3, Tryd.ntmps3
  go_wp2_with fail
  refine (begin_ok _ _ _ _ h1 h2 h3 h4 (by omega) (by omega)).mono ?_
  rintro e w1 ⟨g, h, b, rfl, hg, hh, hb, hB, hR, hF⟩
  have HB := Lib.hid hB
  have HR := Lib.hid hR
  have HF := Lib.hid hF
  clear hB hR hF
  obtain ⟨gb, hgb⟩ : ∃ gb, w1.heap.size = gb := ⟨_, rfl⟩
  obtain ⟨BB, hBB⟩ : ∃ BB, BB = bookA (S0 gb) := ⟨_, rfl⟩
  go_upto_region 4 with fail
  refine wp_region_list ?_
  refine wpList_buildTo rfl 43 #[] rfl _ rfl BB (by subst hBB; rw [Array.map_empty]; exact book_built) ?_
  refine Go.Great.wpList_boxTo rfl 43 _ rfl _ rfl gb hgb BB rfl ?_
  obtain ⟨z, hz⟩ : ∃ z, z = w1.alloc (.cells BB 43) := ⟨_, rfl⟩
  rw [← hz]
  have hHX : Ask w gb g h (s * t / 100) m 0 0 (S0 gb) [] (past0 m) 1 b [(m : Int)] [] z := by
    have hf : Fr [] w1 z := by rw [hz]; exact (Fr.refl _ _).alloc _
    have hBz : Bk z gb 43 (bookA (S0 gb)) := by rw [hz, ← hBB, ← hgb]; exact Bk.new _ _ _
    have hzz := HF.out.size
    have t1 := HB.out.lt
    obtain ⟨t2, t3⟩ := HR.out.lt
    have hp : past0 (m : Int) 15 = m := by simp [past0]
    refine ⟨rfl, rfl, BLk.start gb 16, Sg.start (t := thTn7 w.heap.size g h b (s * t / 100) m (past0 m) 1 [(m : Int)]) ⟨⟨HB.out.fr hf (by simp), HR.out.fr hf (by simp) (by simp)⟩, hg, hh, hb⟩ hBz (by omega) ?_ (HF.out.trans hf (by simp)),
      Hist.first _, by simp, hmul0, hmul1, h5, h6, by rw [hp]; omega, by rw [hp]; omega⟩
    intro hx
    have hx : gb = g ∨ gb = h ∨ gb = b := by simpa [thTn7] using hx
    omega
  have HX := Lib.hid hHX
  clear hHX HB HR HF
  clear hz hBB
  have hgbT : True := trivial
  clear hgb hg hh hb
  generalize (s * t / 100 : Int) = wn at *
  go_upto_region 5 with fail
  go_wp2_with fail
  go_loopw [15] (fun i wr => ∃ k : Nat, k ≤ 200 ∧ k ≤ n + 1 ∧ i = .int .i64 k ∧ Hid (∃ S XW p many b l, Ask w gb g h wn m k (6 * k) S XW p many b l [] wr)) (fun i _ => 200 - (intOf i).toNat)
  case atStart => exact ⟨0, by omega, by omega, rfl, _, _, _, _, _, _, HX.out⟩
  case round =>
    obtain ⟨k, hk, hkn, rfl, hx⟩ := hrel
    obtain ⟨S, XW, p, many, b1, l, hAsk⟩ := hx.out
    have HW := Lib.hid hAsk
    have p0 := hAsk.p0
    have p1 := hAsk.p1
    clear hAsk hx HX
    by_cases hlt : k ≤ n ∧ k < 200
    · obtain ⟨hl1, hl2⟩ := hlt
      obtain ⟨ob, hob⟩ : ∃ ob, decide (p 15 ≤ age) = ob := ⟨_, rfl⟩
      have HOB := Lib.hid hob
      have ho1 : Hid (decide (p 15 ≤ p 15) = true) := by show decide (p 15 ≤ p 15) = true; simp
      have ho2 : Hid (decide (p 15 ≤ p 15 - 1) = false) := by show decide (p 15 ≤ p 15 - 1) = false; rw [decide_eq_false_iff_not]; omega
      have hbb : (ob != ob) = false := by cases ob <;> rfl
      clear hob
      go_wp2_with fail
      refine (threshold_any _ _ _ _ _ _ HW.out.P.T).mono ?_
      rintro e w2 ⟨rfl, rfl⟩
      go_wp2_with fail
      refine (old_at _ HW.out.P HOB.out).mono ?_
      rintro e w2 ⟨rfl, rfl⟩
      go_wp2_with fail
      refine (old_at _ HW.out.P ho1.out).mono ?_
      rintro e w2 ⟨rfl, rfl⟩
      go_wp2_with fail
      refine (old_at _ HW.out.P ho2.out).mono ?_
      rintro e w2 ⟨rfl, rfl⟩
      go_wp2_with fail
      refine (rthreshold_hist HW.out.P.R HW.out.H).mono ?_
      rintro e w2 ⟨rfl, hf⟩
      have HW2 := Lib.hid (HW.out.quiet hf)
      clear hf
      go_wp2_with fail
      refine (rold_at _ HW2.out.P HW2.out.H HOB.out).mono ?_
      rintro e w3 ⟨rfl, hf⟩
      have HW3 := Lib.hid (HW2.out.quiet hf)
      clear hf
      go_wp2_with fail
      go_loopw [20] (fun i wr => ∃ j : Nat, j ≤ 3 ∧ i = .int .i64 j ∧ Hid (∃ S XW, Ask w gb g h wn m k (6 * k + 2 * j) S XW p many b1 l [] wr)) (fun i _ => 3 - (intOf i).toNat)
      case atStart => exact ⟨0, by omega, rfl, _, _, HW3.out⟩
      case round =>
        obtain ⟨j, hj, rfl, hx⟩ := hrel
        obtain ⟨S2, XW2, hAsk⟩ := hx.out
        have HY := Lib.hid hAsk
        have hlen := hAsk.len
        clear hAsk hx
        by_cases hj3 : j < 3
        · go_wp2_with fail
          refine (history_last HY.out).mono ?_
          rintro e w5 ⟨b2, c2, rfl, hR, hA⟩
          have HR5 := Lib.hid hR
          have HY5 := Lib.hid hA
          clear hR hA
          go_wp2_with fail
          refine (rhistory_any h b1 _ _ l _ HY5.out.P.R HY5.out.H.pos (by omega)).mono ?_
          rintro e w6 ⟨A2, c3, rfl, hR, _, hf⟩
          have HY6 := Lib.hid (HY5.out.quiet hf)
          have HR6 := Lib.hid (HR5.out.fr hf (by simp))
          have HQ6 := Lib.hid hR
          clear hR hf
          go_wp2_with fail
          refine (same_yes _ A2 (lastL l) _ c2 c3 _ rfl HR6.out HQ6.out).mono ?_
          rintro e w7 ⟨rfl, hf⟩
          have HY7 := Lib.hid (HY6.out.quiet hf)
          clear hf HR6 HQ6 HR5
          go_wp2_with fail
          refine (ask_ints _ HY7.out (by omega)).mono ?_
          rintro e w8 ⟨rfl, S3, XW3, hA⟩
          have HY8 := Lib.hid hA
          clear hA
          go_wp2_with fail
          refine (ask_hold HY8.out).mono ?_
          rintro e w9 ⟨rfl, hf⟩
          have HY9 := Lib.hid (HY8.out.quiet hf)
          clear hf
          go_wp2_with fail
          go_roundw
          case rel => exact ⟨j + 1, by omega, by go_num, _, _, HY9.out⟩
          case measure => simp [intOf]; omega
        · obtain rfl : j = 3 := by omega
          have hK : 6 * k + 2 * 3 = 6 * (k + 1) := by omega
          by_cases hkl : k < n
          · obtain ⟨bT, oT, rfl, hbT, hrT⟩ := HT.out.2 (by omega)
            have hrak : ∀ W, Fr [] w W → W.rangeAt bT (oT + k * 16) (arr16 (F k)).toList := fun W hf j v hv => (World.cell?_of_block (hf.block bT hbT (by simp))).trans (hrT k hkl j v hv)
            have HRA := Lib.hid hrak
            clear hrak hrT
            by_cases hok : okW (F k) <;> (have HOK := Lib.hid hok; clear hok)
            · go_wp2_with (refine wpList_load_mid rfl 53 _ rfl bT (oT + k * 16) rfl (arr16 (F k)).toList _ (HRA.out _ HY.out.sg.fr) Tryd.underlying53 rfl (by kernel_rfl) ?_)
              refine (turn_ok (F k) g wn m p many _ HY.out.P.T HOK.out HY.out.P.w0 HY.out.P.w1 HY.out.P.m0 HY.out.P.m1 (by have := HY.out.P.n0; omega) HY.out.P.n1).mono ?_
              rintro e w3 ⟨rfl, hB, hf⟩
              have hF3 : Fr [] w w3 := HY.out.sg.fr.trans hf (by
                obtain ⟨⟨hT, hRR⟩, q1, q2, q3⟩ := HY.out.sg.ok 11 (thTn7 w.heap.size g h b1 wn m p many l) rfl
                intro x hx
                right
                simp at hx
                omega)
              have HF3 := Lib.hid hF3
              have hne : h ∉ [g] ∧ b1 ∉ [g] := by have := HY.out.P.ne; simp [this.1.symm, this.2.symm]
              have HR3 : Hid (RIs w3 h b1 wn m l) := HY.out.P.R.fr hf hne.1 hne.2
              have HB := Lib.hid hB
              have HFF := Lib.hid hf
              clear hB hf hne hF3
              go_wp2_with (refine wpList_load_mid rfl 53 _ rfl bT (oT + k * 16) rfl (arr16 (F k)).toList _ (HRA.out _ HF3.out) Tryd.underlying53 rfl (by kernel_rfl) ?_)
              refine (rturn_ok (F k) h b1 wn m l w3 HR3.out (by omega) HOK.out HY.out.P.w0 HY.out.P.w1 HY.out.P.m0 HY.out.P.m1).mono ?_
              rintro e w4 ⟨b2, rfl, hR, hb2, hf⟩
              have hX := HY.out.turned HB.out HFF.out hR hb2 hf (next_bound (F k) wn HY.out.m0).1 (next_bound (F k) wn HY.out.m0).2
              rw [hK] at hX
              have HX := Lib.hid hX
              clear hX hR hb2 hf HB HFF HF3 HR3
              go_wp2_with fail
              go_roundw
              case rel => exact ⟨k + 1, by omega, by omega, by go_num, _, _, _, _, _, _, HX.out⟩
              case measure => simp [intOf]; omega
            · go_wp2_with (refine wpList_load_mid rfl 53 _ rfl bT (oT + k * 16) rfl (arr16 (F k)).toList _ (HRA.out _ HY.out.sg.fr) Tryd.underlying53 rfl (by kernel_rfl) ?_)
              refine (turn_bad (F k) g wn _ p many _ HY.out.P.T HOK.out).mono ?_
              rintro e w3 ⟨rfl, hf⟩
              have HX3 := Lib.hid (HY.out.quiet hf)
              clear hf
              go_wp2_with (refine wpList_load_mid rfl 53 _ rfl bT (oT + k * 16) rfl (arr16 (F k)).toList _ (HRA.out _ HX3.out.sg.fr) Tryd.underlying53 rfl (by kernel_rfl) ?_)
              refine (rturn_bad (F k) h w3 HOK.out).mono ?_
              rintro e w4 ⟨rfl, hf⟩
              have hX := (HX3.out.quiet hf).more
              rw [hK] at hX
              have HX := Lib.hid hX
              clear hX hf
              go_wp2_with fail
              go_roundw
              case rel => exact ⟨k + 1, by omega, by omega, by go_num, _, _, _, _, _, _, HX.out⟩
              case measure => simp [intOf]; omega
          · go_wp2_with fail
            have hX := HY.out.more
            rw [hK] at hX
            go_roundw
            case rel => exact ⟨k + 1, by omega, by omega, by go_num, _, _, _, _, _, _, hX⟩
            case measure => simp [intOf]; omega
    · go_wp2_with fail
      all_goals
        go_ret
        exact ⟨rfl, HW.out.sg.fr⟩
end Go.Proofs.YtdcppdgnekhcgaaDoor
