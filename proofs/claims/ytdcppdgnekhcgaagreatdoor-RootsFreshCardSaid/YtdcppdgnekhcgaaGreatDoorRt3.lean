/-
  Roots that nobody has used yet: what they answer.
-/
import Derived.Test.YtdcppdgnekhcgaaGreatDoorRt2
import Derived.Deep.RegionHeld3
import Derived.WalkSpells
namespace Go.Proofs.YtdcppdgnekhcgaaGreatDoor
open Go.RowKit
set_option maxRecDepth 100000
set_option linter.unusedVariables false

theorem has_any (g T cap : Nat) (A : Option Addr) (t : Int) (w : World) (hT : T ≤ 8) (h1 : w.cell? ⟨g, 1, none⟩ = some (.slice A T cap)) :
    Calls Tryz.prog 56 #[.pointer (some ⟨g, 0, none⟩), .int .i64 t] w fun e w' => e = .returned (.bool (decide (0 ≤ t) && decide (t < T))) ∧ w = w' := by
  by_cases h0 : 0 ≤ t
  · have d0 : decide (0 ≤ t) = true := by simpa using h0
    go_enter Tryz.func56, Tryz.ntmps56
    go_wp2
    go_ret
    exact ⟨by simp [h0], rfl⟩
  · have d0 : decide (0 ≤ t) = false := by simpa using h0
    go_enter Tryz.func56, Tryz.ntmps56
    go_wp2
    go_ret
    exact ⟨by simp, rfl⟩

theorem isOpen_fresh {g gT gH T S H : Nat} (h : Int) (w : World) (hf : FreshR w g gT gH T S H) :
    Calls Tryz.prog 89 #[.pointer (some ⟨g, 0, none⟩), .int .i64 h] w fun e w' => e = .returned (.bool false) ∧ w = w' := by
  have c2 : w.cell? ⟨g, 2, none⟩ = some (.slice (some ⟨gH, 0, none⟩) H H) := hf.B.cell 2
  have hH := hf.ok.2.2.2.2
  by_cases h0 : 0 ≤ h ∧ h < H
  · obtain ⟨k, rfl⟩ := Int.eq_ofNat_of_zero_le h0.1
    have hk : k < H := by omega
    have ck : w.cell? ⟨gH, k * 2, none⟩ = some (.bool false) := by rw [hf.Hd.cell, shutH_open hk]
    have d0 : decide (0 ≤ (k : Int)) = true := by simp
    have d1 : (k : Int) < (H : Int) := by omega
    clear h0 hf
    go_enter Tryz.func89, Tryz.ntmps89
    go_wp2
    go_ret
    exact ⟨rfl, rfl⟩
  · clear hf
    by_cases h1 : 0 ≤ h
    · have d0 : decide (0 ≤ h) = true := by simpa using h1
      have d1 : decide (h < (H : Int)) = false := by simp; omega
      go_enter Tryz.func89, Tryz.ntmps89
      go_wp2
      go_ret
      exact ⟨rfl, rfl⟩
    · have d0 : decide (0 ≤ h) = false := by simpa using h1
      go_enter Tryz.func89, Tryz.ntmps89
      go_wp2
      go_ret
      exact ⟨rfl, rfl⟩

theorem clone_nil (w : World) : Calls Tryz.prog 55 #[.slice none 0 0] w fun e w' => e = .returned (.slice none 0 0) ∧ w = w' := by
  have hq := fun W : World => Lib.run_eql_slice_nil (P := Tryz.prog) W 29 3 none 0 0 0 0 Tryz.underlying29
  go_enter Tryz.func55, Tryz.ntmps55
  go_wp2
  go_ret
  exact ⟨rfl, rfl⟩

theorem queue_fresh {g gT gH T S H : Nat} (w : World) (hf : FreshR w g gT gH T S H) :
    Calls Tryz.prog 14 #[.pointer (some ⟨g, 0, none⟩)] w fun e w' => e = .returned (.slice none 0 0) ∧ w = w' := by
  have c3 : w.cell? ⟨g, 3, none⟩ = some (.slice none 0 0) := hf.B.cell 3
  clear hf
  go_enter Tryz.func14, Tryz.ntmps14
  go_wp2_with fail
  refine (clone_nil w).mono ?_
  rintro e w' ⟨rfl, rfl⟩
  go_wp2_with fail
  go_ret
  exact ⟨rfl, rfl⟩

theorem pop_fresh {g gT gH T S H : Nat} (w : World) (t : Nat) (ht : t < T) (hf : FreshR w g gT gH T S H) :
    Calls Tryz.prog 48 #[.pointer (some ⟨g, 0, none⟩), .int .i64 t] w fun e w' => e = .returned (.int .i64 54) ∧ w = w' := by
  have c1 : w.cell? ⟨g, 1, none⟩ = some (.slice (some ⟨gT, 0, none⟩) T T) := hf.B.cell 1
  have ct : w.cell? ⟨gT, t, none⟩ = some (.slice none 0 0) := by rw [hf.Th.cell]; simp [ht]
  obtain ⟨_, hT, _⟩ := hf.ok
  have hlt : (t : Int) < (T : Int) := by omega
  have h0 : (0 : Int) ≤ (t : Int) := by omega
  have d : (decide (0 ≤ (t : Int)) && decide ((t : Int) < (T : Int))) = true := by simp; omega
  have HD := Lib.hid d
  clear hf d
  go_enter Tryz.func48, Tryz.ntmps48
  go_wp2_with fail
  refine (has_any g T T _ t w hT c1).mono ?_
  rintro e w' ⟨rfl, rfl⟩
  rw [HD.out]
  go_wp2_with fail
  go_ret
  exact ⟨rfl, rfl⟩

theorem each_fresh {g gT gH T S H : Nat} (w : World) (F : Fn) (xs ys : Array Value) (hf : FreshR w g gT gH T S H) :
    Calls Tryz.prog 53 #[.pointer (some ⟨g, 0, none⟩), .func F xs ys] w fun e w' => e = .returned (.tuple #[]) ∧ Fr [] w w' := by
  obtain ⟨T0, T1, S0, S1, H1⟩ := hf.ok
  have c1 : w.cell? ⟨g, 1, none⟩ = some (.slice (some ⟨gT, 0, none⟩) T T) := hf.B.cell 1
  have c2 : w.cell? ⟨g, 2, none⟩ = some (.slice (some ⟨gH, 0, none⟩) H H) := hf.B.cell 2
  have c3 : w.cell? ⟨g, 3, none⟩ = some (.slice none 0 0) := hf.B.cell 3
  have l1 := hf.B.lt
  have l2 := hf.Th.lt
  have l3 := hf.Hd.lt
  have HF := Lib.hid hf
  clear hf
  go_enter Tryz.func53, Tryz.ntmps53
  go_wp2_with fail
  go_loop [18] (fun i => ∃ k : Nat, k ≤ T ∧ i = .int .i64 k) (fun i => T - (intOf i).toNat)
  case atStart => exact ⟨0, by omega, rfl⟩
  case round =>
    obtain ⟨k, hk, rfl⟩ := hrel
    by_cases hlt : k < T
    · have ct : w.cell? ⟨gT, k, none⟩ = some (.slice none 0 0) := by rw [HF.out.Th.cell]; simp [hlt]
      go_wp2_with fail
      go_loop [24] (fun i => i = .int .i64 0) (fun _ => 0)
      case atStart => rfl
      case round =>
        subst hrel
        go_wp2_with fail
        go_round
        case rel => exact ⟨k + 1, by omega, by go_num⟩
        case measure => simp [intOf]; omega
    · go_wp2_with fail
      go_loop [46] (fun i => ∃ k : Nat, k ≤ H ∧ i = .int .i64 k) (fun i => H - (intOf i).toNat)
      case atStart => exact ⟨0, by omega, rfl⟩
      case round =>
        obtain ⟨q, hq, rfl⟩ := hrel
        by_cases hqt : q < H
        · have cq : w.cell? ⟨gH, q * 2, none⟩ = some (.bool false) := by rw [HF.out.Hd.cell, shutH_open hqt]
          go_wp2_with fail
          go_round
          case rel => exact ⟨q + 1, by omega, by go_num⟩
          case measure => simp [intOf]; omega
        · go_wp2_with fail
          go_loop [72] (fun i => i = .int .i64 0) (fun _ => 0)
          case atStart => rfl
          case round =>
            subst hrel
            go_wp2_with fail
            go_returns
            exact ⟨rfl, (Fr.refl _ _).alloc _⟩
end Go.Proofs.YtdcppdgnekhcgaaGreatDoor
