/-
  TenureHolds.
-/
import Derived.Test.YtkldeichodogdaaTen6
namespace Go.Proofs.Ytkldeichodogdaa
open Go.RowKit Ten

theorem holds_no (s t m : Int) (f : Nat → Int) (w : World) (h : s < 1 ∨ 65536 < s ∨ t < 1 ∨ 100 < t ∨ m < 1 ∨ 15 < m) :
    Calls Try.prog 5 #[.int .i64 s, .int .i64 t, .int .i64 m, .agg (arr16 f)] w fun e w' => e = .returned (.bool true) ∧ Fr [] w w' := by
  have H := Lib.hid h
  clear h
  go_enter Try.func5, Try.ntmps5
  go_wp2_with fail
  refine (known_any _).mono ?_
  rintro e w1 ⟨rfl, hf⟩
  have HF : Hid (Fr [] w w1) := ((Fr.refl [] w).alloc _).trans hf (by simp)
  clear hf
  go_wp2_with fail
  refine (new_no _ _ _ _ H.out).mono ?_
  rintro e w2 ⟨rfl, rfl⟩
  go_wp2_with fail
  refine (num_any _ _).mono ?_
  rintro e w2 ⟨rfl, rfl⟩
  go_wp2_with fail
  all_goals first
    | (go_ret; exact ⟨rfl, HF.out⟩)
    | (exfalso; have := H.out; omega)
    | (go_ret; have h := H.out; exact ⟨by simp; omega, HF.out⟩)

set_option maxRecDepth 100000 in
theorem holds_bad (s t : Int) (m : Nat) (f : Nat → Int) (w : World) (h1 : 1 ≤ s) (h2 : s ≤ 65536) (h3 : 1 ≤ t) (h4 : t ≤ 100) (h5 : 1 ≤ m) (h6 : m ≤ 15) (hf : ¬ okW f) :
    Calls Try.prog 5 #[.int .i64 s, .int .i64 t, .int .i64 m, .agg (arr16 f)] w fun e w' => e = .returned (.bool true) ∧ Fr [] w w' := by
  have HN := Lib.hid hf
  obtain ⟨hm1, hm2⟩ := mul_le h1 h2 h3 h4
  clear hf
  go_enter Try.func5, Try.ntmps5
  go_wp2_with fail
  refine (known_any _).mono ?_
  rintro e w1 ⟨rfl, hf⟩
  have HA : Hid (Bk w1 w.heap.size 31 (arr16 f)) := (Bk.new w _ _).fr hf (by simp)
  have HF : Hid (Fr [] w w1) := ((Fr.refl [] w).alloc _).trans hf (by simp)
  clear hf
  go_wp2_with fail
  refine (new_ok _ _ _ _ h1 h2 h3 h4 (by omega) (by omega)).mono ?_
  rintro e w2 ⟨g, rfl, hg, hb, hf⟩
  have HA2 := Lib.hid (HA.out.fr hf (by simp))
  have HB := Lib.hid hb
  have HF2 := Lib.hid (HF.out.trans hf (by simp))
  clear hb hf hg
  go_wp2_with fail
  refine (num_any _ _).mono ?_
  rintro e w3 ⟨rfl, rfl⟩
  go_wp2_with (refine wpList_load_row rfl 31 _ rfl w.heap.size rfl 31 (arr16 f) (0, 0) _ HA2.out Try.underlying31 rfl (by kernel_rfl) ?_)
  refine (turn_bad f g _ _ _ _ _ HB.out HN.out).mono ?_
  rintro e w3 ⟨rfl, hf⟩
  have HA3 := Lib.hid (HA2.out.fr hf (by simp))
  have HB3 := Lib.hid (HB.out.fr hf (by simp))
  have HF3 := Lib.hid (HF2.out.trans hf (by simp))
  clear hf
  go_wp2_with (refine wpList_load_row rfl 31 _ rfl w.heap.size rfl 31 (arr16 f) (0, 0) _ HA3.out Try.underlying31 rfl (by kernel_rfl) ?_)
  refine (sums_no f _ HN.out).mono ?_
  rintro e w4 ⟨rfl, hf⟩
  have HB4 := Lib.hid (HB3.out.fr hf (by simp))
  have HF4 := Lib.hid (HF3.out.trans hf (by simp))
  clear hf
  go_wp2_with fail
  refine (num_any _ _).mono ?_
  rintro e w5 ⟨rfl, rfl⟩
  go_wp2_with fail
  refine (threshold_any _ _ _ _ _ _ HB4.out).mono ?_
  rintro e w5 ⟨rfl, rfl⟩
  rw [show past0 (m : Int) 15 = m from rfl]
  go_wp2_with fail
  go_ret
  exact ⟨by simp, HF4.out⟩

set_option maxRecDepth 100000 in
theorem holds_ok (s t : Int) (m : Nat) (f : Nat → Int) (w : World) (h1 : 1 ≤ s) (h2 : s ≤ 65536) (h3 : 1 ≤ t) (h4 : t ≤ 100) (h5 : 1 ≤ m) (h6 : m ≤ 15) (hf : okW f) :
    Calls Try.prog 5 #[.int .i64 s, .int .i64 t, .int .i64 m, .agg (arr16 f)] w fun e w' => e = .returned (.bool true) ∧ Fr [] w w' := by
  have HN := Lib.hid hf
  obtain ⟨hm1, hm2⟩ := mul_le h1 h2 h3 h4
  have hmul : s * t / 100 ≤ s := by
    have := Int.mul_le_mul_of_nonneg_left h4 (show 0 ≤ s by omega)
    omega
  obtain ⟨x, hx, hx1, hx2, hx3, hx4⟩ := next_spec (wanted := s * t / 100) (most := m) hf (by omega) h5 h6
  have HX := Lib.hid hx
  have HX4 := Lib.hid hx4
  clear hf hx hx4
  go_enter Try.func5, Try.ntmps5
  go_wp2_with fail
  refine (known_any _).mono ?_
  rintro e w1 ⟨rfl, hf⟩
  have HA : Hid (Bk w1 w.heap.size 31 (arr16 f)) := (Bk.new w _ _).fr hf (by simp)
  have HF : Hid (Fr [] w w1) := ((Fr.refl [] w).alloc _).trans hf (by simp)
  clear hf
  go_wp2_with fail
  refine (new_ok _ _ _ _ h1 h2 h3 h4 (by omega) (by omega)).mono ?_
  rintro e w2 ⟨g, rfl, hg, hb, hf⟩
  have HA2 := Lib.hid (HA.out.fr hf (by simp))
  have HB := Lib.hid hb
  have HF2 := Lib.hid (HF.out.trans hf (by simp))
  have HG : Hid (w.heap.size < g ∧ w.heap.size ≤ g) := ⟨Nat.lt_of_lt_of_le HA.out.lt hg, Nat.le_of_lt (Nat.lt_of_lt_of_le HA.out.lt hg)⟩
  clear hb hf hg
  go_wp2_with fail
  refine (num_any _ _).mono ?_
  rintro e w3 ⟨rfl, rfl⟩
  go_wp2_with (refine wpList_load_row rfl 31 _ rfl w.heap.size rfl 31 (arr16 f) (0, 0) _ HA2.out Try.underlying31 rfl (by kernel_rfl) ?_)
  refine (turn_ok f g _ m _ _ _ HB.out HN.out (by omega) (by omega) h5 h6 (by omega) (by omega)).mono ?_
  rintro e w3 ⟨rfl, hb, hf⟩
  rw [HX.out] at hb ⊢
  have HA3 := Lib.hid (HA2.out.fr hf (by have := HG.out; simp; omega))
  have HB3 := Lib.hid hb
  have HF3 := Lib.hid (HF2.out.trans hf (by have := HG.out; simp; omega))
  clear hf hb
  go_wp2_with (refine wpList_load_row rfl 31 _ rfl w.heap.size rfl 31 (arr16 f) (0, 0) _ HA3.out Try.underlying31 rfl (by kernel_rfl) ?_)
  refine (sums_yes f _ HN.out).mono ?_
  rintro e w4 ⟨rfl, hf⟩
  have HA4 := Lib.hid (HA3.out.fr hf (by simp))
  have HB4 := Lib.hid (HB3.out.fr hf (by simp))
  have HF4 := Lib.hid (HF3.out.trans hf (by simp))
  clear hf
  go_wp2_with fail
  refine (num_any _ _).mono ?_
  rintro e w5 ⟨rfl, rfl⟩
  go_wp2_with fail
  refine (threshold_any _ _ _ _ _ _ HB4.out).mono ?_
  rintro e w5 ⟨rfl, rfl⟩
  rw [show Ten.shift (past0 (m : Int)) (x : Int) 15 = x from rfl]
  go_wp2_with fail
  go_loop [13, 14] (fun b i => ∃ k : Nat, k + 1 ≤ x ∧ b = .int .i64 (sumTo f k) ∧ i = .int .i64 ((k : Int) + 1)) (fun _ i => 16 - (intOf i).toNat)
  case atStart => exact ⟨0, by omega, rfl, rfl⟩
  case round =>
    obtain ⟨k, hk, rfl, rfl⟩ := hrel
    have hsb := sumTo_bound HN.out k (by omega)
    have hfk := HN.out (k + 1) (by omega)
    have hck : w4.cell? ⟨w.heap.size, k + 1, none⟩ = some (.int .i64 (f (k + 1))) := (HA4.out.cell _).trans (arr16_get f (by omega))
    by_cases hlt : k + 1 < x
    · go_wp2_with fail
      go_round
      case rel => exact ⟨k + 1, by omega, by simp only [sumTo], by go_num⟩
      case measure => simp [intOf]; omega
    · have hkx : x = k + 1 := by omega
      subst hkx
      have hs : sumTo f k ≤ s * t / 100 := by simpa using hx3
      have hsum : sumTo f (k + 1) = sumTo f k + f (k + 1) := rfl
      rcases HX4.out with hm | ⟨hm, hgt⟩
      · have hb : (((k : Int) + 1) == (m : Int)) = true := by rw [beq_iff_eq]; omega
        go_wp2_with fail
        all_goals
          go_ret
          exact ⟨by simp, HF4.out⟩
      · have hb : (((k : Int) + 1) == (m : Int)) = false := by rw [beq_eq_false_iff_ne]; omega
        rw [hsum] at hgt
        clear hsum
        go_wp2_with fail
        all_goals
          go_ret
          exact ⟨by simp, HF4.out⟩
end Go.Proofs.Ytkldeichodogdaa
