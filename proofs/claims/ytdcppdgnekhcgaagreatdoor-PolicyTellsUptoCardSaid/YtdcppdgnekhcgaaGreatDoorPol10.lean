/-
  The document's turn: open.
-/
import Derived.Test.YtdcppdgnekhcgaaGreatDoorPol9
import Derived.StillTailTactics
namespace Go.Proofs.YtdcppdgnekhcgaaGreatDoor
open Go.RowKit Pol
set_option maxRecDepth 100000
set_option linter.unusedVariables false

theorem ran_is {g : Nat} {c : Nat → Int} {kind words first most : Int} {l : List Int} {cl ov : Bool} {rv : Value} {x : Int} {b : Bool} {w : World} (hb : decide (x ∈ l) = b) (P : RB w g c kind words first most l cl ov rv) (hl : l.length ≤ 3) :
    Calls Tryz.prog 73 #[.pointer (some ⟨g, 0, none⟩), .int .i64 x] w fun e w' => e = .returned (.bool b) ∧ w' = w := by
  subst hb
  exact ran_any g c kind words first most l cl ov rv x w P hl

theorem ma_is {s : St} {l : List Int} (h : Ok s l) {m : Bool} (hm : s.ma = m) : decide ((3 : Int) ∈ l) = m := by
  subst hm
  cases hh : s.ma <;> simp [h.ma, hh]


set_option maxHeartbeats 1600000 in
theorem ropen_small (g : Nat) (c : Nat → Int) (words first most : Int) (s : St) (l : List Int) (rv : Value) (v : Vw) (w : World)
    (P : RB w g c 1 words first most l false false rv) (hok : Ok s l) (hp : s.ph = .small) (hbig : bigB c words = false) (l0 : 0 ≤ most) (l1 : most ≤ 4294967296) (w0 : s.ph = .big → 2 ≤ words) (w1 : words ≤ 9223372036854775807) (m : Bool) (hm : s.ma = m) :
    Calls Tryz.prog 72 #[.pointer (some ⟨g, 0, none⟩), .agg #[.int .i64 v.eden, .int .i64 v.young, .int .i64 v.ten, .int .i64 v.room]] w
      (ROpen g c 1 words first most l rv (openR words most s v) w) := by
  have HP := Lib.hid P
  have HOK := Lib.hid hok
  have hl := hok.len3
  have h14 : w.cell? ⟨g, 14, none⟩ = some (.int .i64 1) := P.B.cell 14
  have h19 : w.cell? ⟨g, 19, none⟩ = some (.bool false) := P.B.cell 19
  have hf19 := P.B.free 19
  have hg := P.B.lt
  have HM := Lib.hid hm
  have HH := Lib.hid hp
  have HBIG := Lib.hid hbig
  have HW0 := Lib.hid w0
  clear hm hp hbig w0
  clear P hok
  go_enter Tryz.func72, Tryz.ntmps72
  go_wp2_with fail
  refine (ran_is (b := m) (ma_is HOK.out HM.out) (HP.out.al _) hl).mono ?_
  rintro e w2 ⟨rfl, rfl⟩
  go_upto_region 5 with fail
  obtain ⟨w1', hw1⟩ : ∃ w1, w1 = (w.alloc (.cells #[.int .i64 v.eden, .int .i64 v.young, .int .i64 v.ten, .int .i64 v.room] 67)).drew := ⟨_, rfl⟩
  have HP1 : Hid (RB w1' g c 1 words first most l false false rv) := by subst hw1; exact HP.out.aldr _ 1
  have HV1 : Hid (Bk w1' w.heap.size 67 #[.int .i64 v.eden, .int .i64 v.young, .int .i64 v.ten, .int .i64 v.room]) := by subst hw1; exact (Bk.new _ _ _).drew
  have HF1 : Hid (Fr [] w w1') := by subst hw1; exact ((Fr.refl _ _).alloc _).drew
  have HW1 := Lib.hid hw1
  clear hw1
  have c0 : w1'.cell? ⟨g, 0, none⟩ = some (.int .i64 (c 0)) := HP1.out.B.cell 0
  have c1 : w1'.cell? ⟨g, 1, none⟩ = some (.int .i64 (c 1)) := HP1.out.B.cell 1
  have c2 : w1'.cell? ⟨g, 2, none⟩ = some (.int .i64 (c 2)) := HP1.out.B.cell 2
  have c3 : w1'.cell? ⟨g, 3, none⟩ = some (.int .i64 (c 3)) := HP1.out.B.cell 3
  have c4 : w1'.cell? ⟨g, 4, none⟩ = some (.int .i64 (c 4)) := HP1.out.B.cell 4
  have c5 : w1'.cell? ⟨g, 5, none⟩ = some (.int .i64 (c 5)) := HP1.out.B.cell 5
  have c6 : w1'.cell? ⟨g, 6, none⟩ = some (.int .i64 (c 6)) := HP1.out.B.cell 6
  have c7 : w1'.cell? ⟨g, 7, none⟩ = some (.int .i64 (c 7)) := HP1.out.B.cell 7
  have c8 : w1'.cell? ⟨g, 8, none⟩ = some (.int .i64 (c 8)) := HP1.out.B.cell 8
  have c9 : w1'.cell? ⟨g, 9, none⟩ = some (.int .i64 (c 9)) := HP1.out.B.cell 9
  have c10 : w1'.cell? ⟨g, 10, none⟩ = some (.int .i64 (c 10)) := HP1.out.B.cell 10
  have c11 : w1'.cell? ⟨g, 11, none⟩ = some (.int .i64 (c 11)) := HP1.out.B.cell 11
  have c12 : w1'.cell? ⟨g, 12, none⟩ = some (.int .i64 (c 12)) := HP1.out.B.cell 12
  have c13 : w1'.cell? ⟨g, 13, none⟩ = some (.int .i64 (c 13)) := HP1.out.B.cell 13
  have c15 : w1'.cell? ⟨g, 15, none⟩ = some (.int .i64 words) := HP1.out.B.cell 15
  refine wp_region_still_tail 8 (by kernel_rfl) (by kernel_rfl) ?_
  change wpStill _ _ (w.alloc (.cells #[.int .i64 v.eden, .int .i64 v.young, .int .i64 v.ten, .int .i64 v.room] 67)).drew _ _ _
  rw [← HW1.out]
  simp only [List.take_succ_cons, List.take_zero, List.drop_succ_cons, List.drop_zero]
  repeat still_step
  refine wpStill_nil ?_
  change wpList _ _ _ _ _ (w.alloc (.cells #[.int .i64 v.eden, .int .i64 v.young, .int .i64 v.ten, .int .i64 v.room] 67)).drew
  rw [← HW1.out]
  go_wp2_with fail
  refine (rbig_is c words _).mono ?_
  rintro e w3 ⟨rfl, hf⟩
  rw [HBIG.out]
  have HP3 : Hid (RB w3 g c 1 words first most l false false rv) := HP1.out.fr hf (by simp) (by simp)
  have HV3 : Hid (Bk w3 w.heap.size 67 #[.int .i64 v.eden, .int .i64 v.young, .int .i64 v.ten, .int .i64 v.room]) := HV1.out.fr hf (by simp)
  have HF3 : Hid (Fr [] w w3) := HF1.out.trans hf (by simp)
  clear hf
  clear c0 c1 c2 c3 c4 c5 c6 c7 c8 c9 c10 c11 c12 c13 c15 h14 h19 hf19
  have v0 : w3.cell? ⟨w.heap.size, 0, none⟩ = some (.int .i64 v.eden) := HV3.out.cell 0
  have v1 : w3.cell? ⟨w.heap.size, 1, none⟩ = some (.int .i64 v.young) := HV3.out.cell 1
  have v2 : w3.cell? ⟨w.heap.size, 2, none⟩ = some (.int .i64 v.ten) := HV3.out.cell 2
  have v3 : w3.cell? ⟨w.heap.size, 3, none⟩ = some (.int .i64 v.room) := HV3.out.cell 3
  go_wp2_with fail
  refine (rsmall_any g c 1 words first most s l rv v _ m _ HP3.out HOK.out HH.out HM.out rfl).mono ?_
  rintro e w4 ⟨rfl, hr⟩
  have HR := Lib.hid (hr.of_fr HF3.out (by simp))
  clear hr
  go_wp2_with fail
  go_ret
  exact ⟨rfl, HR.out⟩

set_option maxHeartbeats 1600000 in
theorem ropen_big (g : Nat) (c : Nat → Int) (words first most : Int) (s : St) (l : List Int) (rv : Value) (v : Vw) (w : World)
    (P : RB w g c 1 words first most l false false rv) (hok : Ok s l) (hp : s.ph = .big) (hbig : bigB c words = true) (l0 : 0 ≤ most) (l1 : most ≤ 4294967296) (w0 : s.ph = .big → 2 ≤ words) (w1 : words ≤ 9223372036854775807) (m : Bool) (hm : s.ma = m) :
    Calls Tryz.prog 72 #[.pointer (some ⟨g, 0, none⟩), .agg #[.int .i64 v.eden, .int .i64 v.young, .int .i64 v.ten, .int .i64 v.room]] w
      (ROpen g c 1 words first most l rv (openR words most s v) w) := by
  have HP := Lib.hid P
  have HOK := Lib.hid hok
  have hl := hok.len3
  have h14 : w.cell? ⟨g, 14, none⟩ = some (.int .i64 1) := P.B.cell 14
  have h19 : w.cell? ⟨g, 19, none⟩ = some (.bool false) := P.B.cell 19
  have hf19 := P.B.free 19
  have hg := P.B.lt
  have HM := Lib.hid hm
  have HH := Lib.hid hp
  have HBIG := Lib.hid hbig
  have HW0 := Lib.hid w0
  clear hm hp hbig w0
  clear P hok
  go_enter Tryz.func72, Tryz.ntmps72
  go_wp2_with fail
  refine (ran_is (b := m) (ma_is HOK.out HM.out) (HP.out.al _) hl).mono ?_
  rintro e w2 ⟨rfl, rfl⟩
  go_upto_region 5 with fail
  obtain ⟨w1', hw1⟩ : ∃ w1, w1 = (w.alloc (.cells #[.int .i64 v.eden, .int .i64 v.young, .int .i64 v.ten, .int .i64 v.room] 67)).drew := ⟨_, rfl⟩
  have HP1 : Hid (RB w1' g c 1 words first most l false false rv) := by subst hw1; exact HP.out.aldr _ 1
  have HV1 : Hid (Bk w1' w.heap.size 67 #[.int .i64 v.eden, .int .i64 v.young, .int .i64 v.ten, .int .i64 v.room]) := by subst hw1; exact (Bk.new _ _ _).drew
  have HF1 : Hid (Fr [] w w1') := by subst hw1; exact ((Fr.refl _ _).alloc _).drew
  have HW1 := Lib.hid hw1
  clear hw1
  have c0 : w1'.cell? ⟨g, 0, none⟩ = some (.int .i64 (c 0)) := HP1.out.B.cell 0
  have c1 : w1'.cell? ⟨g, 1, none⟩ = some (.int .i64 (c 1)) := HP1.out.B.cell 1
  have c2 : w1'.cell? ⟨g, 2, none⟩ = some (.int .i64 (c 2)) := HP1.out.B.cell 2
  have c3 : w1'.cell? ⟨g, 3, none⟩ = some (.int .i64 (c 3)) := HP1.out.B.cell 3
  have c4 : w1'.cell? ⟨g, 4, none⟩ = some (.int .i64 (c 4)) := HP1.out.B.cell 4
  have c5 : w1'.cell? ⟨g, 5, none⟩ = some (.int .i64 (c 5)) := HP1.out.B.cell 5
  have c6 : w1'.cell? ⟨g, 6, none⟩ = some (.int .i64 (c 6)) := HP1.out.B.cell 6
  have c7 : w1'.cell? ⟨g, 7, none⟩ = some (.int .i64 (c 7)) := HP1.out.B.cell 7
  have c8 : w1'.cell? ⟨g, 8, none⟩ = some (.int .i64 (c 8)) := HP1.out.B.cell 8
  have c9 : w1'.cell? ⟨g, 9, none⟩ = some (.int .i64 (c 9)) := HP1.out.B.cell 9
  have c10 : w1'.cell? ⟨g, 10, none⟩ = some (.int .i64 (c 10)) := HP1.out.B.cell 10
  have c11 : w1'.cell? ⟨g, 11, none⟩ = some (.int .i64 (c 11)) := HP1.out.B.cell 11
  have c12 : w1'.cell? ⟨g, 12, none⟩ = some (.int .i64 (c 12)) := HP1.out.B.cell 12
  have c13 : w1'.cell? ⟨g, 13, none⟩ = some (.int .i64 (c 13)) := HP1.out.B.cell 13
  have c15 : w1'.cell? ⟨g, 15, none⟩ = some (.int .i64 words) := HP1.out.B.cell 15
  refine wp_region_still_tail 8 (by kernel_rfl) (by kernel_rfl) ?_
  change wpStill _ _ (w.alloc (.cells #[.int .i64 v.eden, .int .i64 v.young, .int .i64 v.ten, .int .i64 v.room] 67)).drew _ _ _
  rw [← HW1.out]
  simp only [List.take_succ_cons, List.take_zero, List.drop_succ_cons, List.drop_zero]
  repeat still_step
  refine wpStill_nil ?_
  change wpList _ _ _ _ _ (w.alloc (.cells #[.int .i64 v.eden, .int .i64 v.young, .int .i64 v.ten, .int .i64 v.room] 67)).drew
  rw [← HW1.out]
  go_wp2_with fail
  refine (rbig_is c words _).mono ?_
  rintro e w3 ⟨rfl, hf⟩
  rw [HBIG.out]
  have HP3 : Hid (RB w3 g c 1 words first most l false false rv) := HP1.out.fr hf (by simp) (by simp)
  have HV3 : Hid (Bk w3 w.heap.size 67 #[.int .i64 v.eden, .int .i64 v.young, .int .i64 v.ten, .int .i64 v.room]) := HV1.out.fr hf (by simp)
  have HF3 : Hid (Fr [] w w3) := HF1.out.trans hf (by simp)
  clear hf
  clear c0 c1 c2 c3 c4 c5 c6 c7 c8 c9 c10 c11 c12 c13 c15 h14 h19 hf19
  have v0 : w3.cell? ⟨w.heap.size, 0, none⟩ = some (.int .i64 v.eden) := HV3.out.cell 0
  have v1 : w3.cell? ⟨w.heap.size, 1, none⟩ = some (.int .i64 v.young) := HV3.out.cell 1
  have v2 : w3.cell? ⟨w.heap.size, 2, none⟩ = some (.int .i64 v.ten) := HV3.out.cell 2
  have v3 : w3.cell? ⟨w.heap.size, 3, none⟩ = some (.int .i64 v.room) := HV3.out.cell 3
  go_wp2_with fail
  refine (rbig_any g c 1 words first most s l rv v m _ HP3.out HOK.out HH.out HM.out l0 l1 (HW0.out HH.out) w1).mono ?_
  rintro e w4 ⟨rfl, hr⟩
  have HR := Lib.hid (hr.of_fr HF3.out (by simp))
  clear hr
  go_wp2_with fail
  go_ret
  exact ⟨rfl, HR.out⟩

set_option maxHeartbeats 1600000 in
theorem ropen_minor_a (g : Nat) (c : Nat → Int) (words first most : Int) (s : St) (l : List Int) (rv : Value) (v : Vw) (w : World)
    (P : RB w g c 2 words first most l false false rv) (hok : Ok s l) (hp : s.ph = .minor) (h1 : v.young ≤ v.room) (m : Bool) (hm : s.ma = m) :
    Calls Tryz.prog 72 #[.pointer (some ⟨g, 0, none⟩), .agg #[.int .i64 v.eden, .int .i64 v.young, .int .i64 v.ten, .int .i64 v.room]] w
      (ROpen g c 2 words first most l rv (openR words most s v) w) := by
  have HP := Lib.hid P
  have HOK := Lib.hid hok
  have hl := hok.len3
  have h14 : w.cell? ⟨g, 14, none⟩ = some (.int .i64 2) := P.B.cell 14
  have h19 : w.cell? ⟨g, 19, none⟩ = some (.bool false) := P.B.cell 19
  have hf19 := P.B.free 19
  have hg := P.B.lt
  have HM := Lib.hid hm
  have E : Hid (openR words most s v = (3, true)) := by simp [openR, hp, h1, Hid]
  clear hm hp
  clear P hok
  go_enter Tryz.func72, Tryz.ntmps72
  go_wp2_with fail
  refine (ran_is (b := m) (ma_is HOK.out HM.out) (HP.out.al _) hl).mono ?_
  rintro e w2 ⟨rfl, rfl⟩
  go_wp2_with fail
  refine (cycle_any g c 2 words first most l true false rv 3 1 _ (HP.out.close.al _) hl).mono ?_
  rintro e w2 ⟨rfl, hr⟩
  have HR := Lib.hid (hr.of_fr (((Fr.refl [g] w).setCell (by simp) _).alloc _) (by simp))
  clear hr
  go_wp2_with fail
  go_ret
  exact ropen_cyc E.out rfl HR.out

set_option maxHeartbeats 1600000 in
theorem ropen_minor_b (g : Nat) (c : Nat → Int) (words first most : Int) (s : St) (l : List Int) (rv : Value) (v : Vw) (w : World)
    (P : RB w g c 2 words first most l false false rv) (hok : Ok s l) (hp : s.ph = .minor) (h1 : v.room < v.young) (hm : s.ma = false) :
    Calls Tryz.prog 72 #[.pointer (some ⟨g, 0, none⟩), .agg #[.int .i64 v.eden, .int .i64 v.young, .int .i64 v.ten, .int .i64 v.room]] w
      (ROpen g c 2 words first most l rv (openR words most s v) w) := by
  have HP := Lib.hid P
  have HOK := Lib.hid hok
  have hl := hok.len3
  have h14 : w.cell? ⟨g, 14, none⟩ = some (.int .i64 2) := P.B.cell 14
  have h19 : w.cell? ⟨g, 19, none⟩ = some (.bool false) := P.B.cell 19
  have hf19 := P.B.free 19
  have hg := P.B.lt
  have HM := Lib.hid hm
  have hd : decide (v.young ≤ v.room) = false := by simpa using h1
  have E : Hid (openR words most s v = (5, false)) := by simp [openR, hp, Int.not_le.2 h1, hm, Hid]
  clear hm hp
  clear P hok
  go_enter Tryz.func72, Tryz.ntmps72
  go_wp2_with fail
  refine (ran_is (b := false) (ma_is HOK.out HM.out) (HP.out.al _) hl).mono ?_
  rintro e w2 ⟨rfl, rfl⟩
  go_wp2_with fail
  refine (cycle_any g c 2 words first most l false false rv 5 3 _ (HP.out.al _) hl).mono ?_
  rintro e w2 ⟨rfl, hr⟩
  have HR := Lib.hid (hr.of_fr ((Fr.refl [] w).alloc _) (by simp))
  clear hr
  go_wp2_with fail
  go_ret
  exact ropen_cyc E.out rfl HR.out

set_option maxHeartbeats 1600000 in
theorem ropen_minor_c (g : Nat) (c : Nat → Int) (words first most : Int) (s : St) (l : List Int) (rv : Value) (v : Vw) (w : World)
    (P : RB w g c 2 words first most l false false rv) (hok : Ok s l) (hp : s.ph = .minor) (h1 : v.room < v.young) (hm : s.ma = true) :
    Calls Tryz.prog 72 #[.pointer (some ⟨g, 0, none⟩), .agg #[.int .i64 v.eden, .int .i64 v.young, .int .i64 v.ten, .int .i64 v.room]] w
      (ROpen g c 2 words first most l rv (openR words most s v) w) := by
  have HP := Lib.hid P
  have HOK := Lib.hid hok
  have hl := hok.len3
  have h14 : w.cell? ⟨g, 14, none⟩ = some (.int .i64 2) := P.B.cell 14
  have h19 : w.cell? ⟨g, 19, none⟩ = some (.bool false) := P.B.cell 19
  have hf19 := P.B.free 19
  have hg := P.B.lt
  have HM := Lib.hid hm
  have hd : decide (v.young ≤ v.room) = false := by simpa using h1
  have E : Hid (openR words most s v = (0, false)) := by simp [openR, hp, Int.not_le.2 h1, hm, Hid]
  clear hm hp
  clear P hok
  go_enter Tryz.func72, Tryz.ntmps72
  go_wp2_with fail
  refine (ran_is (b := true) (ma_is HOK.out HM.out) (HP.out.al _) hl).mono ?_
  rintro e w2 ⟨rfl, rfl⟩
  go_wp2_with fail
  go_ret
  exact ropen_none E.out rfl (HP.out.al _) ((Fr.refl [g] w).alloc _)

set_option maxHeartbeats 1600000 in
theorem ropen_all_a (g : Nat) (c : Nat → Int) (words first most : Int) (s : St) (l : List Int) (rv : Value) (v : Vw) (w : World)
    (P : RB w g c 3 words first most l false false rv) (hok : Ok s l) (hp : s.ph = .all) (h1 : v.young ≤ v.room) (m : Bool) (hm : s.ma = m) :
    Calls Tryz.prog 72 #[.pointer (some ⟨g, 0, none⟩), .agg #[.int .i64 v.eden, .int .i64 v.young, .int .i64 v.ten, .int .i64 v.room]] w
      (ROpen g c 3 words first most l rv (openR words most s v) w) := by
  have HP := Lib.hid P
  have HOK := Lib.hid hok
  have hl := hok.len3
  have h14 : w.cell? ⟨g, 14, none⟩ = some (.int .i64 3) := P.B.cell 14
  have h19 : w.cell? ⟨g, 19, none⟩ = some (.bool false) := P.B.cell 19
  have hf19 := P.B.free 19
  have hg := P.B.lt
  have HM := Lib.hid hm
  have E : Hid (openR words most s v = (4, true)) := by simp [openR, hp, h1, Hid]
  clear hm hp
  clear P hok
  go_enter Tryz.func72, Tryz.ntmps72
  go_wp2_with fail
  refine (ran_is (b := m) (ma_is HOK.out HM.out) (HP.out.al _) hl).mono ?_
  rintro e w2 ⟨rfl, rfl⟩
  go_wp2_with fail
  refine (cycle_any g c 3 words first most l true false rv 4 2 _ (HP.out.close.al _) hl).mono ?_
  rintro e w2 ⟨rfl, hr⟩
  have HR := Lib.hid (hr.of_fr (((Fr.refl [g] w).setCell (by simp) _).alloc _) (by simp))
  clear hr
  go_wp2_with fail
  go_ret
  exact ropen_cyc E.out rfl HR.out

set_option maxHeartbeats 1600000 in
theorem ropen_all_b (g : Nat) (c : Nat → Int) (words first most : Int) (s : St) (l : List Int) (rv : Value) (v : Vw) (w : World)
    (P : RB w g c 3 words first most l false false rv) (hok : Ok s l) (hp : s.ph = .all) (h1 : v.room < v.young) (hm : s.ma = false) :
    Calls Tryz.prog 72 #[.pointer (some ⟨g, 0, none⟩), .agg #[.int .i64 v.eden, .int .i64 v.young, .int .i64 v.ten, .int .i64 v.room]] w
      (ROpen g c 3 words first most l rv (openR words most s v) w) := by
  have HP := Lib.hid P
  have HOK := Lib.hid hok
  have hl := hok.len3
  have h14 : w.cell? ⟨g, 14, none⟩ = some (.int .i64 3) := P.B.cell 14
  have h19 : w.cell? ⟨g, 19, none⟩ = some (.bool false) := P.B.cell 19
  have hf19 := P.B.free 19
  have hg := P.B.lt
  have HM := Lib.hid hm
  have hd : decide (v.young ≤ v.room) = false := by simpa using h1
  have E : Hid (openR words most s v = (5, false)) := by simp [openR, hp, Int.not_le.2 h1, hm, Hid]
  clear hm hp
  clear P hok
  go_enter Tryz.func72, Tryz.ntmps72
  go_wp2_with fail
  refine (ran_is (b := false) (ma_is HOK.out HM.out) (HP.out.al _) hl).mono ?_
  rintro e w2 ⟨rfl, rfl⟩
  go_wp2_with fail
  refine (cycle_any g c 3 words first most l false false rv 5 3 _ (HP.out.al _) hl).mono ?_
  rintro e w2 ⟨rfl, hr⟩
  have HR := Lib.hid (hr.of_fr ((Fr.refl [] w).alloc _) (by simp))
  clear hr
  go_wp2_with fail
  go_ret
  exact ropen_cyc E.out rfl HR.out

set_option maxHeartbeats 1600000 in
theorem ropen_all_c (g : Nat) (c : Nat → Int) (words first most : Int) (s : St) (l : List Int) (rv : Value) (v : Vw) (w : World)
    (P : RB w g c 3 words first most l false false rv) (hok : Ok s l) (hp : s.ph = .all) (h1 : v.room < v.young) (hm : s.ma = true) :
    Calls Tryz.prog 72 #[.pointer (some ⟨g, 0, none⟩), .agg #[.int .i64 v.eden, .int .i64 v.young, .int .i64 v.ten, .int .i64 v.room]] w
      (ROpen g c 3 words first most l rv (openR words most s v) w) := by
  have HP := Lib.hid P
  have HOK := Lib.hid hok
  have hl := hok.len3
  have h14 : w.cell? ⟨g, 14, none⟩ = some (.int .i64 3) := P.B.cell 14
  have h19 : w.cell? ⟨g, 19, none⟩ = some (.bool false) := P.B.cell 19
  have hf19 := P.B.free 19
  have hg := P.B.lt
  have HM := Lib.hid hm
  have hd : decide (v.young ≤ v.room) = false := by simpa using h1
  have E : Hid (openR words most s v = (0, false)) := by simp [openR, hp, Int.not_le.2 h1, hm, Hid]
  clear hm hp
  clear P hok
  go_enter Tryz.func72, Tryz.ntmps72
  go_wp2_with fail
  refine (ran_is (b := true) (ma_is HOK.out HM.out) (HP.out.al _) hl).mono ?_
  rintro e w2 ⟨rfl, rfl⟩
  go_wp2_with fail
  go_ret
  exact ropen_none E.out rfl (HP.out.al _) ((Fr.refl [g] w).alloc _)

set_option maxHeartbeats 1600000 in
theorem ropen_major (g : Nat) (c : Nat → Int) (words first most : Int) (s : St) (l : List Int) (rv : Value) (v : Vw) (w : World)
    (P : RB w g c 4 words first most l false false rv) (hok : Ok s l) (hp : s.ph = .major) (m : Bool) (hm : s.ma = m) :
    Calls Tryz.prog 72 #[.pointer (some ⟨g, 0, none⟩), .agg #[.int .i64 v.eden, .int .i64 v.young, .int .i64 v.ten, .int .i64 v.room]] w
      (ROpen g c 4 words first most l rv (openR words most s v) w) := by
  have HP := Lib.hid P
  have HOK := Lib.hid hok
  have hl := hok.len3
  have h14 : w.cell? ⟨g, 14, none⟩ = some (.int .i64 4) := P.B.cell 14
  have h19 : w.cell? ⟨g, 19, none⟩ = some (.bool false) := P.B.cell 19
  have hf19 := P.B.free 19
  have hg := P.B.lt
  have HM := Lib.hid hm
  have E : Hid (openR words most s v = (5, true)) := by simp [openR, hp, Hid]
  clear hm hp
  clear P hok
  go_enter Tryz.func72, Tryz.ntmps72
  go_wp2_with fail
  refine (ran_is (b := m) (ma_is HOK.out HM.out) (HP.out.al _) hl).mono ?_
  rintro e w2 ⟨rfl, rfl⟩
  go_wp2_with fail
  refine (cycle_any g c 4 words first most l true false rv 5 3 _ (HP.out.close.al _) hl).mono ?_
  rintro e w2 ⟨rfl, hr⟩
  have HR := Lib.hid (hr.of_fr (((Fr.refl [g] w).setCell (by simp) _).alloc _) (by simp))
  clear hr
  go_wp2_with fail
  go_ret
  exact ropen_cyc E.out rfl HR.out

set_option maxHeartbeats 1600000 in
theorem ropen_plain (g : Nat) (c : Nat → Int) (words first most : Int) (s : St) (l : List Int) (rv : Value) (v : Vw) (w : World)
    (P : RB w g c 5 words first most l false false rv) (hok : Ok s l) (hp : s.ph = .closing) (m : Bool) (hm : s.ma = m) :
    Calls Tryz.prog 72 #[.pointer (some ⟨g, 0, none⟩), .agg #[.int .i64 v.eden, .int .i64 v.young, .int .i64 v.ten, .int .i64 v.room]] w
      (ROpen g c 5 words first most l rv (openR words most s v) w) := by
  have HP := Lib.hid P
  have HOK := Lib.hid hok
  have hl := hok.len3
  have h14 : w.cell? ⟨g, 14, none⟩ = some (.int .i64 5) := P.B.cell 14
  have h19 : w.cell? ⟨g, 19, none⟩ = some (.bool false) := P.B.cell 19
  have hf19 := P.B.free 19
  have hg := P.B.lt
  have HM := Lib.hid hm
  have E : Hid (openR words most s v = (0, false)) := by simp [openR, hp, Hid]
  clear hm hp
  clear P hok
  go_enter Tryz.func72, Tryz.ntmps72
  go_wp2_with fail
  refine (ran_is (b := m) (ma_is HOK.out HM.out) (HP.out.al _) hl).mono ?_
  rintro e w2 ⟨rfl, rfl⟩
  go_wp2_with fail
  go_ret
  exact ropen_none E.out rfl (HP.out.al _) ((Fr.refl [g] w).alloc _)

theorem ropen_any (g : Nat) (c : Nat → Int) (kind words first most : Int) (s : St) (l : List Int) (rv : Value) (v : Vw) (w : World)
    (P : RB w g c kind words first most l false false rv) (hok : Ok s l) (hk : 1 ≤ kind ∧ kind ≤ 5) (hp : s.ph = phOf c kind words) (l0 : 0 ≤ most) (l1 : most ≤ 4294967296) (w0 : s.ph = .big → 2 ≤ words) (w1 : words ≤ 9223372036854775807) :
    Calls Tryz.prog 72 #[.pointer (some ⟨g, 0, none⟩), .agg #[.int .i64 v.eden, .int .i64 v.young, .int .i64 v.ten, .int .i64 v.room]] w
      (ROpen g c kind words first most l rv (openR words most s v) w) := by
  obtain ⟨k1, k2⟩ := hk
  have hcase : kind = 1 ∨ kind = 2 ∨ kind = 3 ∨ kind = 4 ∨ kind = 5 := by omega
  rcases hcase with rfl | rfl | rfl | rfl | rfl
  · rcases Bool.eq_false_or_eq_true (bigB c words) with hb | hb
    · exact ropen_big g c words first most s l rv v w P hok (by rw [hp]; simp [phOf, hb]) hb l0 l1 w0 w1 s.ma rfl
    · exact ropen_small g c words first most s l rv v w P hok (by rw [hp]; simp [phOf, hb]) hb l0 l1 w0 w1 s.ma rfl
  · have hp' : s.ph = .minor := by rw [hp]; rfl
    by_cases h1 : v.young ≤ v.room
    · exact ropen_minor_a g c words first most s l rv v w P hok hp' h1 s.ma rfl
    · rcases Bool.eq_false_or_eq_true s.ma with hm | hm
      · exact ropen_minor_c g c words first most s l rv v w P hok hp' (by omega) hm
      · exact ropen_minor_b g c words first most s l rv v w P hok hp' (by omega) hm
  · have hp' : s.ph = .all := by rw [hp]; rfl
    by_cases h1 : v.young ≤ v.room
    · exact ropen_all_a g c words first most s l rv v w P hok hp' h1 s.ma rfl
    · rcases Bool.eq_false_or_eq_true s.ma with hm | hm
      · exact ropen_all_c g c words first most s l rv v w P hok hp' (by omega) hm
      · exact ropen_all_b g c words first most s l rv v w P hok hp' (by omega) hm
  · exact ropen_major g c words first most s l rv v w P hok (by rw [hp]; rfl) s.ma rfl
  · exact ropen_plain g c words first most s l rv v w P hok (by rw [hp]; rfl) s.ma rfl
end Go.Proofs.YtdcppdgnekhcgaaGreatDoor
