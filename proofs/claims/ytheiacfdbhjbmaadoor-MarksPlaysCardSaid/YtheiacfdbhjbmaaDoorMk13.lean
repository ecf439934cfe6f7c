/-
  Marks: the statement MarksGoes.
-/
import Derived.Test.YtheiacfdbhjbmaaDoorMk10
import Derived.Test.YtheiacfdbhjbmaaDoorMk12
namespace Go.Proofs.YtheiacfdbhjbmaaDoor
open Go.RowKit Mk
set_option linter.unusedVariables false

theorem cut_below (F : Nat → Bool) (a b : Nat) {n : Nat} (h : n ≤ a) : cnt (cutF F a b) 0 n = 0 := cnt_zero (fun i hi => by
  unfold cutF
  rw [decide_eq_false (by omega : ¬ a ≤ 0 + i)]
  simp)
theorem cut_in (F : Nat → Bool) (a b : Nat) (n : Nat) : cnt (cutF F a b) 0 n ≤ n - a := by
  rcases Nat.le_total n a with h | h
  · rw [cut_below F a b h]
    omega
  · have h1 := cnt_add (cutF F a b) 0 a (n - a)
    rw [cut_below F a b (Nat.le_refl a), show a + (n - a) = n by omega] at h1
    have h2 := cnt_le (cutF F a b) (0 + a) (n - a)
    omega
theorem cut_above (F : Nat → Bool) (a b : Nat) {n : Nat} (h : b ≤ n) : cnt (cutF F a b) 0 n = cnt (cutF F a b) 0 b := by
  have h1 := cnt_add (cutF F a b) 0 b (n - b)
  rw [show b + (n - b) = n by omega] at h1
  have h2 : cnt (cutF F a b) (0 + b) (n - b) = 0 := cnt_zero (fun i hi => by
    unfold cutF
    rw [decide_eq_false (by omega : ¬ 0 + b + i < b)]
    simp)
  omega
theorem cut_count (F : Nat → Bool) {a b size : Nat} (hab : a ≤ b) (hb : b ≤ size) : cntI F size a b = cnt (cutF F a b) 0 b := by
  unfold cntI lowI highI
  rw [if_pos (by omega), Int.toNat_natCast, Int.toNat_natCast]
  have h1 := cnt_add (cutF F a b) 0 a (b - a)
  rw [cut_below F a b (Nat.le_refl a), show a + (b - a) = b by omega] at h1
  have h2 : cnt F a (b - a) = cnt (cutF F a b) (0 + a) (b - a) := cnt_congr (fun i hi => by
    unfold cutF
    rw [Nat.zero_add, decide_eq_true (by omega : a ≤ a + i), decide_eq_true (by omega : a + i < b)]
    simp)
  omega
theorem goes_eq (F : Nat → Bool) {a b size : Nat} (hb : b ≤ size) (t : Int) : toB (cutF F a b) a b t = (hasF F size t && (decide ((a : Int) ≤ t) && decide (t < (b : Int)))) := by
  unfold toB hasF cutF
  by_cases h1 : (a : Int) ≤ t
  · by_cases h2 : t < (b : Int)
    · rw [decide_eq_true h1, decide_eq_true h2, decide_eq_true (by omega : (0 : Int) ≤ t), decide_eq_true (by omega : t < (size : Int)), decide_eq_true (by omega : a ≤ t.toNat), decide_eq_true (by omega : t.toNat < b)]
      simp
    · rw [decide_eq_false h2]
      simp
  · rw [decide_eq_false h1]
    simp
theorem toB_cut (F : Nat → Bool) (a b : Nat) (j : Nat) : toB (cutF F a b) a b (j : Int) = cutF F a b j := by
  unfold toB
  by_cases h1 : a ≤ j
  · by_cases h2 : j < b
    · rw [decide_eq_true (by omega : (a : Int) ≤ (j : Int)), decide_eq_true (by omega : (j : Int) < (b : Int))]
      simp
    · unfold cutF
      rw [decide_eq_false h2]
      simp
      try (intros; omega)
  · unfold cutF
    rw [decide_eq_false h1]
    simp
    try (intros; omega)

set_option maxRecDepth 100000 in
theorem goes_none (words a b c : Int) (A1 : Option Addr) (n1 c1 : Nat) (l1 : List Int) (w : World) (hw : ¬ (0 ≤ words ∧ words ≤ 8192)) (hO : On w) :
    Calls Tryd.prog 6 #[.int .i64 words, .slice A1 n1 c1, .int .i64 a, .int .i64 b, .int .i64 c] w fun e w' => e = .returned (.bool true) ∧ Fr [] w w' := by
  have HO := Lib.hid hO
  clear hO
  go_enter Tryd.func6, Tryd.ntmps6
  go_wp2_with fail
  refine (known_any w HO.out).mono ?_
  rintro e w1 ⟨rfl, hf1⟩
  have HF1 := Lib.hid hf1
  clear hf1
  go_wp2_with fail
  refine (filled_none words A1 n1 c1 l1 w1 hw).mono ?_
  rintro e w2 ⟨rfl, hf2⟩
  have HF2 := Lib.hid (HF1.out.trans hf2 (by simp))
  clear hf2
  go_wp2_with fail
  go_ret
  exact ⟨rfl, HF2.out⟩

set_option maxRecDepth 100000 in
set_option maxHeartbeats 1600000 in
theorem goes_bad (words : Nat) (a b c : Int) (A1 : Option Addr) (n1 c1 : Nat) (l1 : List Int) (w : World) (hw : words ≤ 8192) (h1 : n1 = l1.length) (r1 : RdI w A1 l1) (b1 : ∀ x ∈ l1, x ≤ 9223372036854775807) (hO : On w)
    (hbad : ¬ (0 ≤ a ∧ b ≤ words ∧ a ≤ b ∧ 0 ≤ c ∧ c ≤ 1048576)) :
    Calls Tryd.prog 6 #[.int .i64 words, .slice A1 n1 c1, .int .i64 a, .int .i64 b, .int .i64 c] w fun e w' => e = .returned (.bool true) ∧ Fr [] w w' := by
  have HO := Lib.hid hO
  have H1 := Lib.hid (And.intro h1 (And.intro r1 b1))
  clear hO h1 r1 b1
  go_enter Tryd.func6, Tryd.ntmps6
  go_wp2_with fail
  refine (known_any w HO.out).mono ?_
  rintro e w1 ⟨rfl, hf1⟩
  have HF1 := Lib.hid hf1
  clear hf1
  go_wp2_with fail
  refine (filled_some words A1 n1 c1 l1 w1 hw H1.out.1 (H1.out.2.1.fr HF1.out (by simp)) H1.out.2.2 (HO.out.fr HF1.out (by simp))).mono ?_
  rintro e w2 ⟨g, gb, rfl, hf2, hg, hgb, hM⟩
  have HF2 := Lib.hid (HF1.out.trans hf2 (by simp))
  have HM2 := Lib.hid hM
  clear hf2 hg hgb hM
  go_wp2_with fail
  refine (slide_refused g gb words _ a b c w2 HM2.out hbad).mono ?_
  rintro e w3 ⟨rfl, rfl⟩
  go_upto_region 7 with fail
  go_cut [68] (fun v wx => v = .bool true ∧ w2 = wx)
  case first =>
    go_wp2_with fail
    all_goals
      go_meet
      case rel => exact ⟨congrArg Value.bool (by first | rfl | (simp; omega) | (exfalso; omega)), rfl⟩
  obtain ⟨rfl, rfl⟩ := hcut
  go_wp2_with fail
  refine (num_any 41 w2).mono ?_
  rintro e w3 ⟨rfl, rfl⟩
  go_wp2_with fail
  go_ret
  exact ⟨rfl, HF2.out⟩

set_option maxRecDepth 100000 in
set_option maxHeartbeats 3200000 in
theorem goes_good (words a b c : Nat) (A1 : Option Addr) (n1 c1 : Nat) (l1 : List Int) (w : World) (hw : words ≤ 8192) (h1 : n1 = l1.length) (r1 : RdI w A1 l1) (b1 : ∀ x ∈ l1, x ≤ 9223372036854775807) (hO : On w)
    (hab : a ≤ b) (hb : b ≤ words) (hc : c ≤ 1048576) :
    Calls Tryd.prog 6 #[.int .i64 words, .slice A1 n1 c1, .int .i64 a, .int .i64 b, .int .i64 c] w fun e w' => e = .returned (.bool true) ∧ Fr [] w w' := by
  have HO := Lib.hid hO
  have H1 := Lib.hid (And.intro h1 (And.intro r1 b1))
  clear hO h1 r1 b1
  go_enter Tryd.func6, Tryd.ntmps6
  go_wp2_with fail
  refine (known_any w HO.out).mono ?_
  rintro e w1 ⟨rfl, hf1⟩
  have HF1 := Lib.hid hf1
  clear hf1
  go_wp2_with fail
  refine (filled_some words A1 n1 c1 l1 w1 hw H1.out.1 (H1.out.2.1.fr HF1.out (by simp)) H1.out.2.2 (HO.out.fr HF1.out (by simp))).mono ?_
  rintro e w2 ⟨g, gb, rfl, hf2, hg, hgb, hM⟩
  have HF2 := Lib.hid (HF1.out.trans hf2 (by simp))
  obtain ⟨F, hF⟩ : ∃ F, fillF words l1 (pairsN l1) = F := ⟨_, rfl⟩
  rw [hF] at hM
  have HM2 := Lib.hid hM
  clear hf2 hg hgb hM hF
  go_wp2_with fail
  refine (slide_is g gb words F a b c w2 HM2.out (HO.out.fr HF2.out (by simp)) hab hb hc).mono ?_
  rintro e w3 ⟨gs, bs, cap, sv, rfl, hS, hf3, hgs, hbs, hsv⟩
  have HS := Lib.hid hS
  have HF3 := Lib.hid (HF2.out.trans hf3 (by simp))
  have HM3 := Lib.hid (HM2.out.fr hf3 (by simp) (by simp))
  clear hS hf3 hgs hbs hsv HM2 HF2
  go_upto_region 7 with fail
  go_cut [68] (fun v wx => v = .bool false ∧ w3 = wx)
  case first =>
    go_wp2_with fail
    all_goals
      go_meet
      case rel => exact ⟨congrArg Value.bool (by first | rfl | (simp; omega) | (exfalso; omega)), rfl⟩
  obtain ⟨rfl, rfl⟩ := hcut
  go_wp2_with fail
  refine (num_any 0 w3).mono ?_
  rintro e w4 ⟨rfl, rfl⟩
  go_upto_region 13 with fail
  obtain ⟨m, hm⟩ : ∃ m, nums words = m := ⟨_, rfl⟩
  rw [hm] at HS
  have hwm : words ≤ 64 * m := by rw [← hm]; unfold nums; omega
  have hmm : m ≤ 128 := by rw [← hm]; unfold nums; omega
  obtain ⟨F5, hF5⟩ : ∃ F5, cutF F a b = F5 := ⟨_, rfl⟩
  obtain ⟨N, hN⟩ : ∃ N, cnt F5 0 (64 * m) = N := ⟨_, rfl⟩
  have HP : Hid ((∀ t : Int, toB F5 a b t = (hasF F words t && (decide ((a : Int) ≤ t) && decide (t < (b : Int))))) ∧ (∀ j : Nat, toB F5 a b j = F5 j) ∧ (∀ n, cnt F5 0 n ≤ n - a) ∧ cnt F5 0 (words + 1) = N ∧ cntI F words a b = N) := by
    rw [← hN, ← hF5]
    refine ⟨goes_eq F hb, toB_cut F a b, cut_in F a b, ?_, ?_⟩
    · rw [cut_above F a b (by omega), cut_above F a b (show b ≤ 64 * m by omega)]
    · rw [cut_count F hab hb, cut_above F a b (show b ≤ 64 * m by omega)]
  have hN2 : N ≤ 8192 := by rw [← hN]; have := cnt_le F5 0 (64 * m); omega
  have HNN := Lib.hid hN
  rw [hF5] at HS
  clear hN hF5 hm
  go_loopw [15, 16] (fun u v wr => ∃ (k q : Nat) (t : Int), u = .int .i64 q ∧ v = .int .i64 t ∧ k ≤ words + 2 ∧ -1 ≤ t ∧ t ≤ words + 1 ∧ q ≤ 8193 ∧ Hid (t = (k : Int) - 1) ∧ Hid (q = cnt F5 0 (k - 1)) ∧ Hid (Fr [] w3 wr)) (fun _ v _ => ((words : Int) + 1 - intOf v).toNat)
  case atStart => exact ⟨0, 0, -1, rfl, rfl, by omega, by omega, by omega, by omega, rfl, rfl, Fr.refl _ _⟩
  case round =>
    obtain ⟨k, q, t, rfl, rfl, hk, ht1, ht2, hq, HT, HQ, HW⟩ := hrel
    by_cases hlt : t ≤ (words : Int)
    · have HM := Lib.hid (HM3.out.fr HW.out (by simp) (by simp))
      have HSr := Lib.hid (HS.out.fr HW.out (by simp) (by simp) (by simp))
      have HFr := Lib.hid (HF3.out.trans HW.out (by simp))
      go_upto_region 15 with fail
      go_cut [17] (fun v wx => v = .bool (toB F5 a b t) ∧ wr = wx)
      case first =>
        have hgo := HP.out.1 t
        go_wp2_with fail
        refine (hasm_any g gb words F t wr HM.out).mono ?_
        rintro e w5 ⟨rfl, rfl⟩
        obtain ⟨H, hH⟩ : ∃ H, hasF F words t = H := ⟨_, rfl⟩
        rw [hH] at hgo ⊢
        have HGO := Lib.hid hgo
        clear hgo hH
        cases H
        all_goals
          go_wp2_with fail
          all_goals
            go_meet
            case rel => exact ⟨congrArg Value.bool (by rw [HGO.out]; simp [*] <;> (try (intros; omega))), rfl⟩
      obtain ⟨rfl, rfl⟩ := hcut
      go_wp2_with fail
      refine (to_any gs bs a b c m cap sv F5 t wr HSr.out (HO.out.fr HFr.out (by simp))).mono ?_
      rintro e w5 ⟨rfl, q5, hw5⟩
      have hf5 : Fr [] wr w5 := by rw [hw5]; exact (Fr.refl _ _).drewN _
      have HW5 := Lib.hid (HW.out.trans hf5 (by simp))
      have HS5 := Lib.hid (HSr.out.fr hf5 (by simp) (by simp) (by simp))
      clear hw5 hf5 HM HSr HFr HW
      obtain ⟨B, hB⟩ : ∃ B, toB F5 a b t = B := ⟨_, rfl⟩
      have HB := Lib.hid hB
      unfold toI
      rw [hB]
      clear hB
      cases B with
      | false =>
        go_wp2_with fail
        go_roundw
        case rel =>
          refine ⟨k + 1, q, t + 1, rfl, rfl, ?_, by omega, by omega, hq, ?_, ?_, HW5.out⟩
          · have := HT.out; omega
          · show t + 1 = ((k + 1 : Nat) : Int) - 1
            have := HT.out; omega
          · show q = cnt F5 0 (k + 1 - 1)
            rcases Nat.eq_zero_or_pos k with h0 | h0
            · have := HQ.out
              subst h0
              exact this
            · obtain ⟨j, rfl⟩ : ∃ j, k = j + 1 := ⟨k - 1, by omega⟩
              have h3 : t = (j : Int) := by have := HT.out; omega
              have h4 := HB.out
              rw [h3, HP.out.2.1 j] at h4
              have h5 := cnt_next F5 j
              rw [h4] at h5
              have h6 := HQ.out
              simp at h5 h6 ⊢
              omega
        case measure => simp [intOf]; omega
      | true =>
        obtain ⟨j, hj⟩ : ∃ j : Nat, k = j + 1 ∧ t = (j : Int) := by
          rcases Nat.eq_zero_or_pos k with h0 | h0
          · have h3 := HT.out
            have h4 := HB.out
            have h5 : t = -1 := by omega
            rw [h5] at h4
            unfold toB at h4
            rw [decide_eq_false (by omega : ¬ (a : Int) ≤ -1)] at h4
            simp at h4
          · exact ⟨k - 1, by omega, by have := HT.out; omega⟩
        obtain ⟨rfl, rfl⟩ := hj
        have hfj : F5 j = true := by rw [← HP.out.2.1 j]; exact HB.out
        have hjb : a ≤ j ∧ j < b := by
          have h4 := HB.out
          unfold toB at h4
          simp at h4
          omega
        have hq2 : q = cnt F5 0 j := by have := HQ.out; simpa using this
        have hqj : q ≤ j - a := by rw [hq2]; exact HP.out.2.2.1 j
        have hback := back_in gs bs a b c m cap sv F5 j w5 HS5.out hfj (by omega)
        rw [← hq2] at hback
        have HBK := Lib.hid hback
        have HQ2 := Lib.hid hq2
        have HFJ := Lib.hid hfj
        have e1 : (cnt F5 0 (j : Int).toNat : Nat) = q := by rw [Int.toNat_natCast, hq2]
        rw [e1]
        clear hback hq2 hfj e1
        have x1 : ((c : Int) + (q : Int) != (c : Int) + (q : Int)) = false := by simp
        have x2 : ((j : Int) != (j : Int)) = false := by simp
        by_cases hca : c ≤ a
        · have x3 : decide ((c : Int) ≤ (a : Int)) = true := decide_eq_true (by omega)
          have x4 : decide ((j : Int) < (c : Int) + (q : Int)) = false := decide_eq_false (by omega)
          go_wp2_with fail
          refine (Calls.mono HBK.out ?_)
          rintro e w6 ⟨rfl, rfl⟩
          go_wp2_with fail
          go_roundw
          case rel =>
            refine ⟨j + 1 + 1, q + 1, (j : Int) + 1, by go_num, rfl, by omega, by omega, by omega, by omega, ?_, ?_, HW5.out⟩
            · show (j : Int) + 1 = ((j + 1 + 1 : Nat) : Int) - 1
              omega
            · show q + 1 = cnt F5 0 (j + 1 + 1 - 1)
              have h5 := cnt_next F5 j
              rw [HFJ.out, ← HQ2.out] at h5
              simp at h5 ⊢
              omega
          case measure => simp [intOf]; omega
        · have x3 : decide ((c : Int) ≤ (a : Int)) = false := decide_eq_false (by omega)
          go_wp2_with fail
          refine (Calls.mono HBK.out ?_)
          rintro e w6 ⟨rfl, rfl⟩
          go_wp2_with fail
          go_roundw
          case rel =>
            refine ⟨j + 1 + 1, q + 1, (j : Int) + 1, by go_num, rfl, by omega, by omega, by omega, by omega, ?_, ?_, HW5.out⟩
            · show (j : Int) + 1 = ((j + 1 + 1 : Nat) : Int) - 1
              omega
            · show q + 1 = cnt F5 0 (j + 1 + 1 - 1)
              have h5 := cnt_next F5 j
              rw [HFJ.out, ← HQ2.out] at h5
              simp at h5 ⊢
              omega
          case measure => simp [intOf]; omega
    · have hkw : k = words + 2 := by have := HT.out; omega
      have hqN : q = N := by
        have := HQ.out
        rw [hkw] at this
        rw [this]
        exact HP.out.2.2.2.1
      subst hqN
      have HM := Lib.hid (HM3.out.fr HW.out (by simp) (by simp))
      have HSr := Lib.hid (HS.out.fr HW.out (by simp) (by simp) (by simp))
      have HFr := Lib.hid (HF3.out.trans HW.out (by simp))
      clear hkw
      go_wp2_with fail
      refine (back_out gs bs a b c m cap sv F5 ((c : Int) - 1) wr HSr.out (by omega) (by omega)).mono ?_
      rintro e w5 ⟨rfl, rfl⟩
      go_wp2_with fail
      refine (back_out gs bs a b c m cap sv F5 ((c : Int) + (q : Int)) wr HSr.out (.inr (by rw [HNN.out]; omega)) (by omega)).mono ?_
      rintro e w5 ⟨rfl, rfl⟩
      go_wp2_with fail
      refine (total_any gs bs a b c m cap sv F5 wr HSr.out).mono ?_
      rintro e w5 ⟨rfl, rfl⟩
      rw [HNN.out]
      have x1 : ((q : Int) == (q : Int)) = true := by simp
      go_wp2_with fail
      refine (countm_any g gb words F a b wr HM.out (HO.out.fr HFr.out (by simp))).mono ?_
      rintro e w5 ⟨rfl, q5, hw5⟩
      rw [HP.out.2.2.2.2]
      have HF5' : Hid (Fr [] w w5) := by rw [hw5]; exact HFr.out.drewN _
      clear hw5
      go_wp2_with fail
      go_ret
      exact ⟨rfl, HF5'.out⟩
end Go.Proofs.YtheiacfdbhjbmaaDoor
