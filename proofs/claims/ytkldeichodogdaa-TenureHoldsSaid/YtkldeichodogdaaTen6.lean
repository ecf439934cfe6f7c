/-
  Old, sums, known.
-/
import Derived.Test.YtkldeichodogdaaTen5
namespace Go.Proofs.Ytkldeichodogdaa
open Go.RowKit Ten

theorem old_any (g : Nat) (wanted most : Int) (p : Nat → Int) (many age : Int) (w : World) (h : Bk w g 49 (tcells wanted most p many)) :
    Calls Try.prog 21 #[.pointer (some ⟨g, 0, none⟩), .int .i64 age] w fun e w' => e = .returned (.bool (decide (p 15 ≤ age))) ∧ w = w' := by
  have HB := Lib.hid h
  clear h
  go_enter Try.func21, Try.ntmps21
  go_wp2_with fail
  refine (threshold_any g wanted most p many w HB.out).mono ?_
  rintro e w1 ⟨rfl, rfl⟩
  go_wp2_with fail
  go_ret
  exact ⟨rfl, rfl⟩

theorem sums_yes (f : Nat → Int) (w : World) (hf : okW f) :
    Calls Try.prog 14 #[.agg (arr16 f)] w fun e w' => e = .returned (.bool true) ∧ Fr [] w w' := by
  have HF := Lib.hid hf
  clear hf
  go_enter Try.func14, Try.ntmps14
  go_wp2
  have hcells : Hid (Bk (w.alloc (.cells (arr16 f) 31)) w.heap.size 31 (arr16 f) ∧ Fr [] w (w.alloc (.cells (arr16 f) 31))) :=
    ⟨Bk.new w _ _, (Fr.refl _ _).alloc _⟩
  generalize w.alloc (.cells (arr16 f) 31) = w1 at *
  generalize ha : w.heap.size = a at *
  have HA := Lib.hid ha
  clear ha
  go_loop [3] (fun i => ∃ k : Nat, k ≤ 16 ∧ i = .int .i64 k) (fun i => 16 - (intOf i).toNat)
  case atStart => exact ⟨0, by omega, rfl⟩
  case round =>
    obtain ⟨k, hk, rfl⟩ := hrel
    by_cases hlt : k < 16
    · have hck : w1.cell? ⟨a, k, none⟩ = some (.int .i64 (f k)) := (hcells.out.1.cell _).trans (arr16_get f hlt)
      obtain ⟨hf0, hf1⟩ := HF.out k hlt
      go_wp2
      go_round
      case rel => exact ⟨k + 1, by omega, by go_num⟩
      case measure => simp [intOf]; omega
    · go_wp2
      go_ret
      exact ⟨rfl, hcells.out.2⟩

theorem sums_no (f : Nat → Int) (w : World) (hf : ¬ okW f) :
    Calls Try.prog 14 #[.agg (arr16 f)] w fun e w' => e = .returned (.bool false) ∧ Fr [] w w' := by
  have HF := Lib.hid hf
  clear hf
  go_enter Try.func14, Try.ntmps14
  go_wp2
  have hcells : Hid (Bk (w.alloc (.cells (arr16 f) 31)) w.heap.size 31 (arr16 f) ∧ Fr [] w (w.alloc (.cells (arr16 f) 31))) :=
    ⟨Bk.new w _ _, (Fr.refl _ _).alloc _⟩
  generalize w.alloc (.cells (arr16 f) 31) = w1 at *
  generalize ha : w.heap.size = a at *
  have HA := Lib.hid ha
  clear ha
  go_loop [3] (fun i => ∃ k : Nat, k ≤ 16 ∧ i = .int .i64 k ∧ Hid (∀ j, j < k → 0 ≤ f j ∧ f j ≤ 65536)) (fun i => 16 - (intOf i).toNat)
  case atStart => exact ⟨0, by omega, rfl, fun j hj => absurd hj (by omega)⟩
  case round =>
    obtain ⟨k, hk, rfl, hgood⟩ := hrel
    by_cases hlt : k < 16
    · have hck : w1.cell? ⟨a, k, none⟩ = some (.int .i64 (f k)) := (hcells.out.1.cell _).trans (arr16_get f hlt)
      go_wp2
      all_goals try (go_ret; exact ⟨rfl, hcells.out.2⟩)
      · go_round
        case rel => exact ⟨k + 1, by omega, by go_num, fun j hj => by
          rcases Nat.lt_or_ge j k with h | h
          · exact hgood j h
          · obtain rfl : j = k := by omega
            omega⟩
        case measure => simp [intOf]; omega
    · exact absurd (fun j hj => hgood.out j (by omega)) HF.out

def f1 (i : Nat) : Int := if i = 1 then 20 else if i = 2 then 10 else if i = 3 then 5 else 0
def f2 (i : Nat) : Int := if i = 1 then 33 else 0
def f3 (i : Nat) : Int := if i = 4 then 65536 else 0
theorem ok1 : okW f1 := fun k _ => by unfold f1; repeat' split <;> omega
theorem ok2 : okW f2 := fun k _ => by unfold f2; repeat' split <;> omega
theorem ok3 : okW f3 := fun k _ => by unfold f3; repeat' split <;> omega
theorem nx1 : next f1 (64 * 50 / 100) 4 = 3 := by decide
theorem nx2 : next f2 (64 * 50 / 100) 4 = 1 := by decide
theorem nx3 : next f3 (64 * 50 / 100) 4 = 4 := by decide

theorem known_any (w : World) : Calls Try.prog 12 #[] w fun e w' => e = .returned (.bool true) ∧ Fr [] w w' := by
  go_enter Try.func12, Try.ntmps12
  go_wp2_with fail
  refine (new_ok 64 50 4 _ (by omega) (by omega) (by omega) (by omega) (by omega) (by omega)).mono ?_
  rintro e w1 ⟨g, rfl, hg, hb, hf⟩
  have HB := Lib.hid hb
  have HF := Lib.hid hf
  clear hb hf
  go_wp2_with fail
  refine (num_any _ _).mono ?_
  rintro e w2 ⟨rfl, rfl⟩
  go_wp2_with fail
  refine (threshold_any _ _ _ _ _ _ HB.out).mono ?_
  rintro e w2 ⟨rfl, rfl⟩
  have hp : past0 4 15 = 4 := rfl
  go_wp2_with fail
  refine (turn_ok f1 g (64 * 50 / 100) 4 (past0 4) 1 _ HB.out ok1 (by omega) (by omega) (by omega) (by omega) (by omega) (by omega)).mono ?_
  rintro e w2 ⟨rfl, hb, hf⟩
  rw [nx1] at hb ⊢
  have HB2 := Lib.hid hb
  have HF2 := Lib.hid (HF.out.trans hf (by simp; omega))
  clear hb hf
  go_wp2_with fail
  refine (turn_ok f2 g (64 * 50 / 100) 4 _ _ _ HB2.out ok2 (by omega) (by omega) (by omega) (by omega) (by omega) (by omega)).mono ?_
  rintro e w3 ⟨rfl, hb, hf⟩
  rw [nx2] at hb ⊢
  have HB3 := Lib.hid hb
  have HF3 := Lib.hid (HF2.out.trans hf (by simp; omega))
  clear hb hf
  go_wp2_with fail
  refine (turn_ok f3 g (64 * 50 / 100) 4 _ _ _ HB3.out ok3 (by omega) (by omega) (by omega) (by omega) (by omega) (by omega)).mono ?_
  rintro e w4 ⟨rfl, hb, hf⟩
  rw [nx3] at hb ⊢
  have HB4 := Lib.hid hb
  have HF4 := Lib.hid (HF3.out.trans hf (by simp; omega))
  clear hb hf
  go_wp2_with fail
  refine (old_any g _ _ _ _ 4 _ HB4.out).mono ?_
  rintro e w5 ⟨rfl, rfl⟩
  rw [show (shift (shift (shift (past0 4) 3) 1) 4 15) = 4 from rfl]
  go_wp2_with fail
  refine (old_any g _ _ _ _ 3 _ HB4.out).mono ?_
  rintro e w5 ⟨rfl, rfl⟩
  rw [show (shift (shift (shift (past0 4) 3) 1) 4 15) = 4 from rfl]
  go_wp2_with fail
  go_ret
  exact ⟨rfl, HF4.out⟩
end Go.Proofs.Ytkldeichodogdaa
