/-
  Which configurations may be: the program's answer and the document's, as one Bool of the fourteen numbers.
-/
import Derived.Test.YtdcppdgnekhcgaaGreatDoorRows
import Derived.Test.YtdcppdgnekhcgaaGreatDoorBase
import Derived.Test.YtdcppdgnekhcgaaGreatDoorPolPlain
import Derived.Deep.DeepCutAuto
import Derived.Deep.QuietTactic
import Derived.BigQuiet
namespace Go.Proofs.YtdcppdgnekhcgaaGreatDoor
open Go.RowKit

/-- A configuration, by value. -/
def cfgA (c : Nat → Int) : Array Value := #[.int .i64 (c 0), .int .i64 (c 1), .int .i64 (c 2), .int .i64 (c 3), .int .i64 (c 4), .int .i64 (c 5), .int .i64 (c 6), .int .i64 (c 7), .int .i64 (c 8), .int .i64 (c 9), .int .i64 (c 10), .int .i64 (c 11), .int .i64 (c 12), .int .i64 (c 13)]

def inB (n lo hi : Int) : Bool := decide (lo ≤ n) && decide (n ≤ hi)
def grp0 (c : Nat → Int) : Bool := inB (c 0) 64 65536 && inB (c 1) 64 65536 && inB (c 2) 64 65536
def grp1 (c : Nat → Int) : Bool := inB (c 3) 2 65536 && inB (c 4) 0 65536 && inB (c 6) 1 65536 && inB (c 5) (c 6) 65536
def grp2 (c : Nat → Int) : Bool := inB (c 7) 1 100 && inB (c 8) 1 15
def grp3 (c : Nat → Int) : Bool := inB (c 9) 1 8 && inB (c 10) 1 4096 && inB (c 11) 0 1024
def validB (c : Nat → Int) : Bool := grp0 c && grp1 c && grp2 c && grp3 c && inB (c 12) 0 (c 0) && inB (c 13) 1 8

theorem within_any (n lo hi : Int) (w : World) : Calls Tryz.prog 93 #[.int .i64 n, .int .i64 lo, .int .i64 hi] w fun e w' => e = .returned (.bool (inB n lo hi)) ∧ w = w' := by
  by_cases h1 : lo ≤ n
  · have e : inB n lo hi = decide (n ≤ hi) := by simp [inB, h1]
    have E := Lib.hid e
    clear e
    go_enter Tryz.func93, Tryz.ntmps93
    go_wp2
    go_ret
    exact ⟨by rw [E.out]; rfl, rfl⟩
  · have e : inB n lo hi = false := by simp [inB, h1]
    have E := Lib.hid e
    clear e
    go_enter Tryz.func93, Tryz.ntmps93
    go_wp2
    go_ret
    exact ⟨by rw [E.out]; rfl, rfl⟩

theorem between_any (n lo hi : Int) (w : World) : Calls Tryz.prog 96 #[.int .i64 n, .int .i64 lo, .int .i64 hi] w fun e w' => e = .returned (.bool (inB n lo hi)) ∧ w = w' := by
  by_cases h1 : lo ≤ n
  · have e : inB n lo hi = decide (n ≤ hi) := by simp [inB, h1]
    have E := Lib.hid e
    clear e
    go_enter Tryz.func96, Tryz.ntmps96
    go_wp2
    go_ret
    exact ⟨by rw [E.out]; rfl, rfl⟩
  · have e : inB n lo hi = false := by simp [inB, h1]
    have E := Lib.hid e
    clear e
    go_enter Tryz.func96, Tryz.ntmps96
    go_wp2
    go_ret
    exact ⟨by rw [E.out]; rfl, rfl⟩

def ValidIs (c : Nat → Int) (w : World) (e : Ending) (w' : World) : Prop := e = .returned (.bool (validB c)) ∧ Fr [] w w'

set_option maxRecDepth 100000 in
theorem valid_any (c : Nat → Int) (w : World) : Calls Tryz.prog 59 #[.agg (cfgA c)] w (ValidIs c w) := by
  go_enter Tryz.func59, Tryz.ntmps59
  go_upto_region 1 with fail
  have hcells : Hid (Bk (w.alloc (.cells (cfgA c) 23)) w.heap.size 23 (cfgA c) ∧ Fr [] w (w.alloc (.cells (cfgA c) 23))) :=
    ⟨Bk.new w _ _, (Fr.refl _ _).alloc _⟩
  generalize w.alloc (.cells (cfgA c) 23) = w1 at *
  generalize ha : w.heap.size = a at *
  have HA := Lib.hid ha
  clear ha
  have c0 : w1.cell? ⟨a, 0, none⟩ = some (.int .i64 (c 0)) := hcells.out.1.cell 0
  have c1 : w1.cell? ⟨a, 1, none⟩ = some (.int .i64 (c 1)) := hcells.out.1.cell 1
  have c2 : w1.cell? ⟨a, 2, none⟩ = some (.int .i64 (c 2)) := hcells.out.1.cell 2
  have c3 : w1.cell? ⟨a, 3, none⟩ = some (.int .i64 (c 3)) := hcells.out.1.cell 3
  have c4 : w1.cell? ⟨a, 4, none⟩ = some (.int .i64 (c 4)) := hcells.out.1.cell 4
  have c5 : w1.cell? ⟨a, 5, none⟩ = some (.int .i64 (c 5)) := hcells.out.1.cell 5
  have c6 : w1.cell? ⟨a, 6, none⟩ = some (.int .i64 (c 6)) := hcells.out.1.cell 6
  have c7 : w1.cell? ⟨a, 7, none⟩ = some (.int .i64 (c 7)) := hcells.out.1.cell 7
  have c8 : w1.cell? ⟨a, 8, none⟩ = some (.int .i64 (c 8)) := hcells.out.1.cell 8
  have c9 : w1.cell? ⟨a, 9, none⟩ = some (.int .i64 (c 9)) := hcells.out.1.cell 9
  have c10 : w1.cell? ⟨a, 10, none⟩ = some (.int .i64 (c 10)) := hcells.out.1.cell 10
  have c11 : w1.cell? ⟨a, 11, none⟩ = some (.int .i64 (c 11)) := hcells.out.1.cell 11
  have c12 : w1.cell? ⟨a, 12, none⟩ = some (.int .i64 (c 12)) := hcells.out.1.cell 12
  have c13 : w1.cell? ⟨a, 13, none⟩ = some (.int .i64 (c 13)) := hcells.out.1.cell 13
  go_cut [3] (fun v wx => v = .bool (grp0 c) ∧ w1 = wx)
  case first =>
    go_wp2_with (go_at_call 93; refine (within_any _ _ _ _).mono ?_; rintro e w' ⟨rfl, rfl⟩)
    all_goals
      go_meet
      case rel =>
        refine ⟨?_, rfl⟩
        simp [grp0, *]
        try omega
  obtain ⟨rfl, rfl⟩ := hcut
  go_upto_region 2 with (go_at_call 93; refine (within_any _ _ _ _).mono ?_; rintro e w' ⟨rfl, rfl⟩)
  go_cut [4] (fun v wx => v = .bool (grp1 c) ∧ w1 = wx)
  case first =>
    go_wp2_with (go_at_call 93; refine (within_any _ _ _ _).mono ?_; rintro e w' ⟨rfl, rfl⟩)
    all_goals
      go_meet
      case rel =>
        refine ⟨?_, rfl⟩
        simp [grp1, *]
        try omega
  obtain ⟨rfl, rfl⟩ := hcut
  go_upto_region 3 with (go_at_call 93; refine (within_any _ _ _ _).mono ?_; rintro e w' ⟨rfl, rfl⟩)
  go_cut [5] (fun v wx => v = .bool (grp2 c) ∧ w1 = wx)
  case first =>
    go_wp2_with (go_at_call 93; refine (within_any _ _ _ _).mono ?_; rintro e w' ⟨rfl, rfl⟩)
    all_goals
      go_meet
      case rel =>
        refine ⟨?_, rfl⟩
        simp [grp2, *]
        try omega
  obtain ⟨rfl, rfl⟩ := hcut
  go_upto_region 4 with (go_at_call 93; refine (within_any _ _ _ _).mono ?_; rintro e w' ⟨rfl, rfl⟩)
  go_cut [6] (fun v wx => v = .bool (grp3 c) ∧ w1 = wx)
  case first =>
    go_wp2_with (go_at_call 93; refine (within_any _ _ _ _).mono ?_; rintro e w' ⟨rfl, rfl⟩)
    all_goals
      go_meet
      case rel =>
        refine ⟨?_, rfl⟩
        simp [grp3, *]
        try omega
  obtain ⟨rfl, rfl⟩ := hcut
  go_wp2_with (go_at_call 93; refine (within_any _ _ _ _).mono ?_; rintro e w' ⟨rfl, rfl⟩)
  all_goals
    go_ret
    exact ⟨by simp [validB, *], hcells.out.2⟩

def rgrp1 (c : Nat → Int) : Bool := inB (c 3) 2 65536 && inB (c 4) 0 65536
def ratio (c : Nat → Int) : Bool := decide (1 ≤ c 6) && decide (c 6 ≤ c 5) && decide (c 5 ≤ 65536)
theorem rvalid_eq (c : Nat → Int) : (grp0 c && rgrp1 c && ratio c && grp2 c && grp3 c && inB (c 12) 0 (c 0) && inB (c 13) 1 8) = validB c := by
  rw [Bool.eq_iff_iff]
  simp only [validB, grp0, grp1, grp2, grp3, rgrp1, ratio, inB, Bool.and_eq_true, decide_eq_true_eq]
  omega

set_option maxRecDepth 100000 in
theorem rvalid_any (c : Nat → Int) (w : World) : Calls Tryz.prog 69 #[.agg (cfgA c)] w (ValidIs c w) := by
  have HE := Lib.hid (rvalid_eq c)
  go_enter Tryz.func69, Tryz.ntmps69
  go_upto_region 1 with fail
  have hcells : Hid (Bk (w.alloc (.cells (cfgA c) 23)) w.heap.size 23 (cfgA c) ∧ Fr [] w (w.alloc (.cells (cfgA c) 23))) :=
    ⟨Bk.new w _ _, (Fr.refl _ _).alloc _⟩
  generalize w.alloc (.cells (cfgA c) 23) = w1 at *
  generalize ha : w.heap.size = a at *
  have HA := Lib.hid ha
  clear ha
  have c0 : w1.cell? ⟨a, 0, none⟩ = some (.int .i64 (c 0)) := hcells.out.1.cell 0
  have c1 : w1.cell? ⟨a, 1, none⟩ = some (.int .i64 (c 1)) := hcells.out.1.cell 1
  have c2 : w1.cell? ⟨a, 2, none⟩ = some (.int .i64 (c 2)) := hcells.out.1.cell 2
  have c3 : w1.cell? ⟨a, 3, none⟩ = some (.int .i64 (c 3)) := hcells.out.1.cell 3
  have c4 : w1.cell? ⟨a, 4, none⟩ = some (.int .i64 (c 4)) := hcells.out.1.cell 4
  have c5 : w1.cell? ⟨a, 5, none⟩ = some (.int .i64 (c 5)) := hcells.out.1.cell 5
  have c6 : w1.cell? ⟨a, 6, none⟩ = some (.int .i64 (c 6)) := hcells.out.1.cell 6
  have c7 : w1.cell? ⟨a, 7, none⟩ = some (.int .i64 (c 7)) := hcells.out.1.cell 7
  have c8 : w1.cell? ⟨a, 8, none⟩ = some (.int .i64 (c 8)) := hcells.out.1.cell 8
  have c9 : w1.cell? ⟨a, 9, none⟩ = some (.int .i64 (c 9)) := hcells.out.1.cell 9
  have c10 : w1.cell? ⟨a, 10, none⟩ = some (.int .i64 (c 10)) := hcells.out.1.cell 10
  have c11 : w1.cell? ⟨a, 11, none⟩ = some (.int .i64 (c 11)) := hcells.out.1.cell 11
  have c12 : w1.cell? ⟨a, 12, none⟩ = some (.int .i64 (c 12)) := hcells.out.1.cell 12
  have c13 : w1.cell? ⟨a, 13, none⟩ = some (.int .i64 (c 13)) := hcells.out.1.cell 13
  go_cut [3] (fun v wx => v = .bool (grp0 c) ∧ w1 = wx)
  case first =>
    go_wp2_with (go_at_call 96; refine (between_any _ _ _ _).mono ?_; rintro e w' ⟨rfl, rfl⟩)
    all_goals
      go_meet
      case rel =>
        refine ⟨?_, rfl⟩
        simp [grp0, *]
        try omega
  obtain ⟨rfl, rfl⟩ := hcut
  go_upto_region 2 with (go_at_call 96; refine (between_any _ _ _ _).mono ?_; rintro e w' ⟨rfl, rfl⟩)
  go_cut [4] (fun v wx => v = .bool (rgrp1 c) ∧ w1 = wx)
  case first =>
    go_wp2_with (go_at_call 96; refine (between_any _ _ _ _).mono ?_; rintro e w' ⟨rfl, rfl⟩)
    all_goals
      go_meet
      case rel =>
        refine ⟨?_, rfl⟩
        simp [rgrp1, *]
        try omega
  obtain ⟨rfl, rfl⟩ := hcut
  go_upto_region 3 with (go_at_call 96; refine (between_any _ _ _ _).mono ?_; rintro e w' ⟨rfl, rfl⟩)
  go_cut [5] (fun v wx => v = .bool (ratio c) ∧ w1 = wx)
  case first =>
    go_wp2_with (go_at_call 96; refine (between_any _ _ _ _).mono ?_; rintro e w' ⟨rfl, rfl⟩)
    all_goals
      go_meet
      case rel =>
        refine ⟨?_, rfl⟩
        simp [ratio, *]
        try omega
  obtain ⟨rfl, rfl⟩ := hcut
  go_upto_region 4 with (go_at_call 96; refine (between_any _ _ _ _).mono ?_; rintro e w' ⟨rfl, rfl⟩)
  go_cut [6] (fun v wx => v = .bool (grp2 c) ∧ w1 = wx)
  case first =>
    go_wp2_with (go_at_call 96; refine (between_any _ _ _ _).mono ?_; rintro e w' ⟨rfl, rfl⟩)
    all_goals
      go_meet
      case rel =>
        refine ⟨?_, rfl⟩
        simp [grp2, *]
        try omega
  obtain ⟨rfl, rfl⟩ := hcut
  go_upto_region 5 with (go_at_call 96; refine (between_any _ _ _ _).mono ?_; rintro e w' ⟨rfl, rfl⟩)
  go_cut [7] (fun v wx => v = .bool (grp3 c) ∧ w1 = wx)
  case first =>
    go_wp2_with (go_at_call 96; refine (between_any _ _ _ _).mono ?_; rintro e w' ⟨rfl, rfl⟩)
    all_goals
      go_meet
      case rel =>
        refine ⟨?_, rfl⟩
        simp [grp3, *]
        try omega
  obtain ⟨rfl, rfl⟩ := hcut
  go_wp2_with (go_at_call 96; refine (between_any _ _ _ _).mono ?_; rintro e w' ⟨rfl, rfl⟩)
  all_goals
    go_ret
    exact ⟨by rw [← HE.out]; simp [*], hcells.out.2⟩
end Go.Proofs.YtdcppdgnekhcgaaGreatDoor
