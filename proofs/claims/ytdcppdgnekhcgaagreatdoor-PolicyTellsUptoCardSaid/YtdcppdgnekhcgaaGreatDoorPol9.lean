/-
  The document's turn: open, Next.
-/
import Derived.Test.YtdcppdgnekhcgaaGreatDoorPol8
import Derived.StillTailTactics
namespace Go.Proofs.YtdcppdgnekhcgaaGreatDoor
open Go.RowKit Pol
set_option maxRecDepth 100000
set_option linter.unusedVariables false

theorem RB.aldr {w : World} {g : Nat} {c : Nat → Int} {kind words first most : Int} {l : List Int} {cl ov : Bool} {rv : Value} (P : RB w g c kind words first most l cl ov rv) (o : Obj) (n : Nat) : RB ((w.alloc o).drewN n) g c kind words first most l cl ov rv :=
  P.fr (((Fr.refl [] w).alloc o).drewN n) (by simp) (by simp)
theorem RB.al {w : World} {g : Nat} {c : Nat → Int} {kind words first most : Int} {l : List Int} {cl ov : Bool} {rv : Value} (P : RB w g c kind words first most l cl ov rv) (o : Obj) : RB (w.alloc o) g c kind words first most l cl ov rv :=
  P.fr ((Fr.refl [] w).alloc o) (by simp) (by simp)

/-- What a piece of 'open' answers: a step, and whether the turn closes now. -/
def ROpen (g : Nat) (c : Nat → Int) (kind words first most : Int) (l : List Int) (rv : Value) (r : Int × Bool) (w : World) (e : Ending) (w' : World) : Prop :=
  e = .returned (.int .i64 r.1) ∧ RPost g c kind words first most (l ++ cycleOf r.1) r.2 false rv w w'

theorem ropen_none {g : Nat} {c : Nat → Int} {kind words first most : Int} {l : List Int} {rv : Value} {n : Int} {cl : Bool} {r : Int × Bool} {w w' : World} (hr : r = (n, cl)) (hn : cycleOf n = []) (hP : RB w' g c kind words first most l cl false rv) (hf : Fr [g] w w') :
    ROpen g c kind words first most l rv r w (.returned (.int .i64 n)) w' := by
  subst hr
  refine ⟨rfl, ?_⟩
  simp only [hn, List.append_nil]
  exact RPost.self hP hf

theorem ropen_cyc {g : Nat} {c : Nat → Int} {kind words first most : Int} {l : List Int} {rv : Value} {n x : Int} {cl : Bool} {r : Int × Bool} {w w' : World} (hr : r = (n, cl)) (hn : cycleOf n = [x]) (h : RPost g c kind words first most (l ++ [x]) cl false rv w w') :
    ROpen g c kind words first most l rv r w (.returned (.int .i64 n)) w' := by
  subst hr
  refine ⟨rfl, ?_⟩
  simp only [hn]
  exact h

theorem none_ran {s : St} {l : List Int} (h : Ok s l) (hl : l = []) : s.mi = false ∧ s.al = false ∧ s.ma = false := by
  have := h.len
  subst hl
  cases h1 : s.mi <;> cases h2 : s.al <;> cases h3 : s.ma <;> simp_all
theorem none_ran' {s : St} {l : List Int} (h : Ok s l) (hn : s.mi = false ∧ s.al = false ∧ s.ma = false) : l = [] := by
  have := h.len
  simp only [hn.1, hn.2.1, hn.2.2] at this
  exact List.eq_nil_of_length_eq_zero (by simpa using this)

/-- The piece of a phase, as 'open' runs it: the step, and whether the turn closes now. -/
def openR (words most : Int) (s : St) (v : Vw) : Int × Bool :=
  match s.ph with
  | .small | .big => ((stepOf words most s v).1, decide ((stepOf words most s v).2 = .closing))
  | .minor => if v.young ≤ v.room then (3, true) else if s.ma = false then (5, false) else (0, false)
  | .all => if v.young ≤ v.room then (4, true) else if s.ma = false then (5, false) else (0, false)
  | .major => (5, true)
  | .closing | .fin => (0, false)


theorem rbig_a (g : Nat) (c : Nat → Int) (kind words first most : Int) (s : St) (l : List Int) (rv : Value) (v : Vw) (w : World)
    (P : RB w g c kind words first most l false false rv) (hok : Ok s l) (hp : s.ph = .big) (hm : s.ma = true) (l0 : 0 ≤ most) (l1 : most ≤ 4294967296) (w0 : 2 ≤ words) (w1 : words ≤ 9223372036854775807) (h1 : words ≤ v.room) :
    Calls Tryz.prog 98 #[.pointer (some ⟨g, 0, none⟩), .agg #[.int .i64 v.eden, .int .i64 v.young, .int .i64 v.ten, .int .i64 v.room], .bool true] w
      (ROpen g c kind words first most l rv (openR words most s v) w) := by
  have HP := Lib.hid P
  have HOK := Lib.hid hok
  have hl := hok.len3
  have h15 : w.cell? ⟨g, 15, none⟩ = some (.int .i64 words) := P.B.cell 15
  have h17 : w.cell? ⟨g, 17, none⟩ = some (.int .i64 most) := P.B.cell 17
  have h19 : w.cell? ⟨g, 19, none⟩ = some (.bool false) := P.B.cell 19
  have hf19 := P.B.free 19
  have hg := P.B.lt
  have E : Hid (openR words most s v = (2, true)) := by simp [openR, stepOf, hp, h1, hm, Hid]
  clear P hok
  clear hp hm
  go_enter Tryz.func98, Tryz.ntmps98
  go_wp2
  go_quiet (fail)
  go_wp2_with fail
  go_ret
  exact ropen_none E.out rfl (HP.out.aldr _ _).close ((((Fr.refl [g] w).alloc _).drewN _).setCell (by simp) _)

theorem rbig_b (g : Nat) (c : Nat → Int) (kind words first most : Int) (s : St) (l : List Int) (rv : Value) (v : Vw) (w : World)
    (P : RB w g c kind words first most l false false rv) (hok : Ok s l) (hp : s.ph = .big) (hm : s.ma = false) (l0 : 0 ≤ most) (l1 : most ≤ 4294967296) (w0 : 2 ≤ words) (w1 : words ≤ 9223372036854775807) (h1 : words ≤ v.room) (h2 : v.ten ≤ most - words) :
    Calls Tryz.prog 98 #[.pointer (some ⟨g, 0, none⟩), .agg #[.int .i64 v.eden, .int .i64 v.young, .int .i64 v.ten, .int .i64 v.room], .bool false] w
      (ROpen g c kind words first most l rv (openR words most s v) w) := by
  have HP := Lib.hid P
  have HOK := Lib.hid hok
  have hl := hok.len3
  have h15 : w.cell? ⟨g, 15, none⟩ = some (.int .i64 words) := P.B.cell 15
  have h17 : w.cell? ⟨g, 17, none⟩ = some (.int .i64 most) := P.B.cell 17
  have h19 : w.cell? ⟨g, 19, none⟩ = some (.bool false) := P.B.cell 19
  have hf19 := P.B.free 19
  have hg := P.B.lt
  have E : Hid (openR words most s v = (2, true)) := by simp [openR, stepOf, hp, h1, h2, hm, Hid]
  clear P hok
  clear hp hm
  go_enter Tryz.func98, Tryz.ntmps98
  go_wp2
  go_quiet (fail)
  go_wp2_with fail
  go_ret
  exact ropen_none E.out rfl (HP.out.aldr _ _).close ((((Fr.refl [g] w).alloc _).drewN _).setCell (by simp) _)

theorem rbig_c (g : Nat) (c : Nat → Int) (kind words first most : Int) (s : St) (l : List Int) (rv : Value) (v : Vw) (w : World)
    (P : RB w g c kind words first most l false false rv) (hok : Ok s l) (hp : s.ph = .big) (hm : s.ma = false) (l0 : 0 ≤ most) (l1 : most ≤ 4294967296) (w0 : 2 ≤ words) (w1 : words ≤ 9223372036854775807) (h1 : words ≤ v.room) (h2 : most - words < v.ten) :
    Calls Tryz.prog 98 #[.pointer (some ⟨g, 0, none⟩), .agg #[.int .i64 v.eden, .int .i64 v.young, .int .i64 v.ten, .int .i64 v.room], .bool false] w
      (ROpen g c kind words first most l rv (openR words most s v) w) := by
  have HP := Lib.hid P
  have HOK := Lib.hid hok
  have hl := hok.len3
  have h15 : w.cell? ⟨g, 15, none⟩ = some (.int .i64 words) := P.B.cell 15
  have h17 : w.cell? ⟨g, 17, none⟩ = some (.int .i64 most) := P.B.cell 17
  have h19 : w.cell? ⟨g, 19, none⟩ = some (.bool false) := P.B.cell 19
  have hf19 := P.B.free 19
  have hg := P.B.lt
  have E : Hid (openR words most s v = (5, false)) := by simp [openR, stepOf, hp, h1, Int.not_le.2 h2, hm, Hid]
  clear P hok
  clear hp hm
  have hd2 : decide (v.ten ≤ most - words) = false := by simpa using h2
  go_enter Tryz.func98, Tryz.ntmps98
  go_wp2
  go_quiet (fail)
  go_wp2_with fail
  refine (cycle_any g c kind words first most l false false rv 5 3 _ (HP.out.aldr _ _) hl).mono ?_
  rintro e w2 ⟨rfl, hr⟩
  have HR := Lib.hid (hr.of_fr (((Fr.refl [] w).alloc _).drewN _) (by simp))
  clear hr
  go_wp2_with fail
  go_ret
  exact ropen_cyc E.out rfl HR.out

theorem rbig_d (g : Nat) (c : Nat → Int) (kind words first most : Int) (s : St) (l : List Int) (rv : Value) (v : Vw) (w : World)
    (P : RB w g c kind words first most l false false rv) (hok : Ok s l) (hp : s.ph = .big) (hm : s.ma = false) (l0 : 0 ≤ most) (l1 : most ≤ 4294967296) (w0 : 2 ≤ words) (w1 : words ≤ 9223372036854775807) (h1 : v.room < words) :
    Calls Tryz.prog 98 #[.pointer (some ⟨g, 0, none⟩), .agg #[.int .i64 v.eden, .int .i64 v.young, .int .i64 v.ten, .int .i64 v.room], .bool false] w
      (ROpen g c kind words first most l rv (openR words most s v) w) := by
  have HP := Lib.hid P
  have HOK := Lib.hid hok
  have hl := hok.len3
  have h15 : w.cell? ⟨g, 15, none⟩ = some (.int .i64 words) := P.B.cell 15
  have h17 : w.cell? ⟨g, 17, none⟩ = some (.int .i64 most) := P.B.cell 17
  have h19 : w.cell? ⟨g, 19, none⟩ = some (.bool false) := P.B.cell 19
  have hf19 := P.B.free 19
  have hg := P.B.lt
  have E : Hid (openR words most s v = (5, false)) := by simp [openR, stepOf, hp, Int.not_le.2 h1, hm, Hid]
  clear P hok
  clear hp hm
  have hd : decide (words ≤ v.room) = false := by simpa using h1
  go_enter Tryz.func98, Tryz.ntmps98
  go_wp2
  go_quiet (fail)
  go_wp2_with fail
  refine (cycle_any g c kind words first most l false false rv 5 3 _ (HP.out.aldr _ _) hl).mono ?_
  rintro e w2 ⟨rfl, hr⟩
  have HR := Lib.hid (hr.of_fr (((Fr.refl [] w).alloc _).drewN _) (by simp))
  clear hr
  go_wp2_with fail
  go_ret
  exact ropen_cyc E.out rfl HR.out

theorem rbig_e (g : Nat) (c : Nat → Int) (kind words first most : Int) (s : St) (l : List Int) (rv : Value) (v : Vw) (w : World)
    (P : RB w g c kind words first most l false false rv) (hok : Ok s l) (hp : s.ph = .big) (hm : s.ma = true) (l0 : 0 ≤ most) (l1 : most ≤ 4294967296) (w0 : 2 ≤ words) (w1 : words ≤ 9223372036854775807) (h1 : v.room < words) :
    Calls Tryz.prog 98 #[.pointer (some ⟨g, 0, none⟩), .agg #[.int .i64 v.eden, .int .i64 v.young, .int .i64 v.ten, .int .i64 v.room], .bool true] w
      (ROpen g c kind words first most l rv (openR words most s v) w) := by
  have HP := Lib.hid P
  have HOK := Lib.hid hok
  have hl := hok.len3
  have h15 : w.cell? ⟨g, 15, none⟩ = some (.int .i64 words) := P.B.cell 15
  have h17 : w.cell? ⟨g, 17, none⟩ = some (.int .i64 most) := P.B.cell 17
  have h19 : w.cell? ⟨g, 19, none⟩ = some (.bool false) := P.B.cell 19
  have hf19 := P.B.free 19
  have hg := P.B.lt
  have E : Hid (openR words most s v = (6, true)) := by simp [openR, stepOf, hp, Int.not_le.2 h1, hm, Hid]
  clear P hok
  clear hp hm
  have hd : decide (words ≤ v.room) = false := by simpa using h1
  go_enter Tryz.func98, Tryz.ntmps98
  go_wp2
  go_quiet (fail)
  go_wp2_with fail
  go_ret
  exact ropen_none E.out rfl (HP.out.aldr _ _).close ((((Fr.refl [g] w).alloc _).drewN _).setCell (by simp) _)

theorem rbig_any (g : Nat) (c : Nat → Int) (kind words first most : Int) (s : St) (l : List Int) (rv : Value) (v : Vw) (m : Bool) (w : World)
    (P : RB w g c kind words first most l false false rv) (hok : Ok s l) (hp : s.ph = .big) (hm : s.ma = m) (l0 : 0 ≤ most) (l1 : most ≤ 4294967296) (w0 : 2 ≤ words) (w1 : words ≤ 9223372036854775807) :
    Calls Tryz.prog 98 #[.pointer (some ⟨g, 0, none⟩), .agg #[.int .i64 v.eden, .int .i64 v.young, .int .i64 v.ten, .int .i64 v.room], .bool m] w
      (ROpen g c kind words first most l rv (openR words most s v) w) := by
  by_cases h1 : words ≤ v.room
  · cases m with
    | true => exact rbig_a g c kind words first most s l rv v w P hok hp hm l0 l1 w0 w1 h1
    | false =>
      by_cases h2 : v.ten ≤ most - words
      · exact rbig_b g c kind words first most s l rv v w P hok hp hm l0 l1 w0 w1 h1 h2
      · exact rbig_c g c kind words first most s l rv v w P hok hp hm l0 l1 w0 w1 h1 (by omega)
  · cases m with
    | true => exact rbig_e g c kind words first most s l rv v w P hok hp hm l0 l1 w0 w1 (by omega)
    | false => exact rbig_d g c kind words first most s l rv v w P hok hp hm l0 l1 w0 w1 (by omega)

theorem rsmall_a (g : Nat) (c : Nat → Int) (kind words first most : Int) (s : St) (l : List Int) (rv : Value) (v : Vw) (w : World)
    (P : RB w g c kind words first most l false false rv) (hok : Ok s l) (hp : s.ph = .small) (sb : Bool) (m : Bool) (h1 : words ≤ v.eden) :
    Calls Tryz.prog 99 #[.pointer (some ⟨g, 0, none⟩), .agg #[.int .i64 v.eden, .int .i64 v.young, .int .i64 v.ten, .int .i64 v.room], .bool sb, .bool m] w
      (ROpen g c kind words first most l rv (openR words most s v) w) := by
  have HP := Lib.hid P
  have HOK := Lib.hid hok
  have hl := hok.len3
  have h15 : w.cell? ⟨g, 15, none⟩ = some (.int .i64 words) := P.B.cell 15
  have h17 : w.cell? ⟨g, 17, none⟩ = some (.int .i64 most) := P.B.cell 17
  have h19 : w.cell? ⟨g, 19, none⟩ = some (.bool false) := P.B.cell 19
  have hf19 := P.B.free 19
  have hg := P.B.lt
  have E : Hid (openR words most s v = (1, true)) := by simp [openR, stepOf, hp, h1, Hid]
  clear P hok
  clear hp
  go_enter Tryz.func99, Tryz.ntmps99
  go_wp2
  go_quiet (fail)
  go_wp2_with fail
  go_ret
  exact ropen_none E.out rfl (HP.out.aldr _ _).close ((((Fr.refl [g] w).alloc _).drewN _).setCell (by simp) _)

theorem rsmall_b (g : Nat) (c : Nat → Int) (kind words first most : Int) (s : St) (l : List Int) (rv : Value) (v : Vw) (w : World)
    (P : RB w g c kind words first most l false false rv) (hok : Ok s l) (hp : s.ph = .small) (m : Bool) (h1 : v.eden < words) (h2 : l = []) (h3 : v.young ≤ v.room) :
    Calls Tryz.prog 99 #[.pointer (some ⟨g, 0, none⟩), .agg #[.int .i64 v.eden, .int .i64 v.young, .int .i64 v.ten, .int .i64 v.room], .bool true, .bool m] w
      (ROpen g c kind words first most l rv (openR words most s v) w) := by
  have hn : s.mi = false ∧ s.al = false ∧ s.ma = false := none_ran hok h2
  have HP := Lib.hid P
  have HOK := Lib.hid hok
  have hl := hok.len3
  have h15 : w.cell? ⟨g, 15, none⟩ = some (.int .i64 words) := P.B.cell 15
  have h17 : w.cell? ⟨g, 17, none⟩ = some (.int .i64 most) := P.B.cell 17
  have h19 : w.cell? ⟨g, 19, none⟩ = some (.bool false) := P.B.cell 19
  have hf19 := P.B.free 19
  have hg := P.B.lt
  have E : Hid (openR words most s v = (3, false)) := by simp [openR, stepOf, hp, Int.not_le.2 h1, hn.1, hn.2.1, hn.2.2, h3, Hid]
  clear P hok
  clear hp
  have hz : ((l.length : Int) == 0) = true := by subst h2; rfl
  have h18 : w.cell? ⟨g, 18, none⟩ = some rv := HP.out.B.cell 18
  obtain ⟨A, cap, hrv⟩ := own_form HP.out.O
  rw [hrv] at h18
  have HRV := Lib.hid hrv
  clear hrv
  go_enter Tryz.func99, Tryz.ntmps99
  go_wp2
  go_quiet (fail)
  go_wp2_with fail
  refine (cycle_any g c kind words first most l false false rv 3 1 _ (HP.out.aldr _ _) hl).mono ?_
  rintro e w2 ⟨rfl, hr⟩
  have HR := Lib.hid (hr.of_fr (((Fr.refl [] w).alloc _).drewN _) (by simp))
  clear hr
  go_wp2_with fail
  go_ret
  exact ropen_cyc E.out rfl HR.out

theorem rsmall_c (g : Nat) (c : Nat → Int) (kind words first most : Int) (s : St) (l : List Int) (rv : Value) (v : Vw) (w : World)
    (P : RB w g c kind words first most l false false rv) (hok : Ok s l) (hp : s.ph = .small) (sb : Bool) (h1 : v.eden < words) (h2 : l ≠ []) (hm : s.ma = false) :
    Calls Tryz.prog 99 #[.pointer (some ⟨g, 0, none⟩), .agg #[.int .i64 v.eden, .int .i64 v.young, .int .i64 v.ten, .int .i64 v.room], .bool sb, .bool false] w
      (ROpen g c kind words first most l rv (openR words most s v) w) := by
  have h2' : ¬ (s.mi = false ∧ s.al = false) := fun h => h2 (none_ran' hok ⟨h.1, h.2, hm⟩)
  have HP := Lib.hid P
  have HOK := Lib.hid hok
  have hl := hok.len3
  have h15 : w.cell? ⟨g, 15, none⟩ = some (.int .i64 words) := P.B.cell 15
  have h17 : w.cell? ⟨g, 17, none⟩ = some (.int .i64 most) := P.B.cell 17
  have h19 : w.cell? ⟨g, 19, none⟩ = some (.bool false) := P.B.cell 19
  have hf19 := P.B.free 19
  have hg := P.B.lt
  have E : Hid (openR words most s v = (5, false)) := by simp [openR, stepOf, hp, Int.not_le.2 h1, h2', hm, Hid]
  clear P hok
  clear hp hm
  have hz : ((l.length : Int) == 0) = false := by rw [beq_eq_false_iff_ne]; have := List.length_pos_iff.2 h2; omega
  have h18 : w.cell? ⟨g, 18, none⟩ = some rv := HP.out.B.cell 18
  obtain ⟨A, cap, hrv⟩ := own_form HP.out.O
  rw [hrv] at h18
  have HRV := Lib.hid hrv
  clear hrv
  go_enter Tryz.func99, Tryz.ntmps99
  go_wp2
  go_quiet (fail)
  go_wp2_with fail
  refine (cycle_any g c kind words first most l false false rv 5 3 _ (HP.out.aldr _ _) hl).mono ?_
  rintro e w2 ⟨rfl, hr⟩
  have HR := Lib.hid (hr.of_fr (((Fr.refl [] w).alloc _).drewN _) (by simp))
  clear hr
  go_wp2_with fail
  go_ret
  exact ropen_cyc E.out rfl HR.out

theorem rsmall_d (g : Nat) (c : Nat → Int) (kind words first most : Int) (s : St) (l : List Int) (rv : Value) (v : Vw) (w : World)
    (P : RB w g c kind words first most l false false rv) (hok : Ok s l) (hp : s.ph = .small) (h1 : v.eden < words) (hm : s.ma = false) (h3 : v.room < v.young) :
    Calls Tryz.prog 99 #[.pointer (some ⟨g, 0, none⟩), .agg #[.int .i64 v.eden, .int .i64 v.young, .int .i64 v.ten, .int .i64 v.room], .bool false, .bool false] w
      (ROpen g c kind words first most l rv (openR words most s v) w) := by
  have HP := Lib.hid P
  have HOK := Lib.hid hok
  have hl := hok.len3
  have h15 : w.cell? ⟨g, 15, none⟩ = some (.int .i64 words) := P.B.cell 15
  have h17 : w.cell? ⟨g, 17, none⟩ = some (.int .i64 most) := P.B.cell 17
  have h19 : w.cell? ⟨g, 19, none⟩ = some (.bool false) := P.B.cell 19
  have hf19 := P.B.free 19
  have hg := P.B.lt
  have E : Hid (openR words most s v = (5, false)) := by simp [openR, stepOf, hp, Int.not_le.2 h1, Int.not_le.2 h3, hm, Hid]
  clear P hok
  clear hp hm
  rcases Bool.eq_false_or_eq_true ((l.length : Int) == 0) with hz | hz
  · skip
    have h18 : w.cell? ⟨g, 18, none⟩ = some rv := HP.out.B.cell 18
    obtain ⟨A, cap, hrv⟩ := own_form HP.out.O
    rw [hrv] at h18
    have HRV := Lib.hid hrv
    clear hrv
    go_enter Tryz.func99, Tryz.ntmps99
    go_wp2
    go_quiet (fail)
    go_wp2_with fail
    refine (cycle_any g c kind words first most l false false rv 5 3 _ (HP.out.aldr _ _) hl).mono ?_
    rintro e w2 ⟨rfl, hr⟩
    have HR := Lib.hid (hr.of_fr (((Fr.refl [] w).alloc _).drewN _) (by simp))
    clear hr
    go_wp2_with fail
    go_ret
    exact ropen_cyc E.out rfl HR.out
  · skip
    have h18 : w.cell? ⟨g, 18, none⟩ = some rv := HP.out.B.cell 18
    obtain ⟨A, cap, hrv⟩ := own_form HP.out.O
    rw [hrv] at h18
    have HRV := Lib.hid hrv
    clear hrv
    go_enter Tryz.func99, Tryz.ntmps99
    go_wp2
    go_quiet (fail)
    go_wp2_with fail
    refine (cycle_any g c kind words first most l false false rv 5 3 _ (HP.out.aldr _ _) hl).mono ?_
    rintro e w2 ⟨rfl, hr⟩
    have HR := Lib.hid (hr.of_fr (((Fr.refl [] w).alloc _).drewN _) (by simp))
    clear hr
    go_wp2_with fail
    go_ret
    exact ropen_cyc E.out rfl HR.out

theorem rsmall_e (g : Nat) (c : Nat → Int) (kind words first most : Int) (s : St) (l : List Int) (rv : Value) (v : Vw) (w : World)
    (P : RB w g c kind words first most l false false rv) (hok : Ok s l) (hp : s.ph = .small) (h1 : v.eden < words) (hm : s.ma = true) (ha : s.al = false) (h3 : v.young ≤ v.room) :
    Calls Tryz.prog 99 #[.pointer (some ⟨g, 0, none⟩), .agg #[.int .i64 v.eden, .int .i64 v.young, .int .i64 v.ten, .int .i64 v.room], .bool true, .bool true] w
      (ROpen g c kind words first most l rv (openR words most s v) w) := by
  have HP := Lib.hid P
  have HOK := Lib.hid hok
  have hl := hok.len3
  have h15 : w.cell? ⟨g, 15, none⟩ = some (.int .i64 words) := P.B.cell 15
  have h17 : w.cell? ⟨g, 17, none⟩ = some (.int .i64 most) := P.B.cell 17
  have h19 : w.cell? ⟨g, 19, none⟩ = some (.bool false) := P.B.cell 19
  have hf19 := P.B.free 19
  have hg := P.B.lt
  have E : Hid (openR words most s v = (4, false)) := by simp [openR, stepOf, hp, Int.not_le.2 h1, h3, hm, ha, Hid]
  clear P hok
  have AL : Hid (decide ((2 : Int) ∈ l) = false) := by simp [HOK.out.al, ha, Hid]
  rcases Bool.eq_false_or_eq_true ((l.length : Int) == 0) with hz | hz
  · exfalso
    have := (none_ran HOK.out (by simpa using hz)).2.2
    rw [hm] at this
    cases this
  clear hp hm ha
  have h18 : w.cell? ⟨g, 18, none⟩ = some rv := HP.out.B.cell 18
  obtain ⟨A, cap, hrv⟩ := own_form HP.out.O
  rw [hrv] at h18
  have HRV := Lib.hid hrv
  clear hrv
  go_enter Tryz.func99, Tryz.ntmps99
  go_wp2
  go_quiet (fail)
  go_wp2_with fail
  refine (ran_any g c kind words first most l false false rv 2 _ (HP.out.aldr _ _) hl).mono ?_
  rintro e w2 ⟨rfl, rfl⟩
  rw [AL.out]
  go_wp2_with fail
  refine (cycle_any g c kind words first most l false false rv 4 2 _ (HP.out.aldr _ _) hl).mono ?_
  rintro e w2 ⟨rfl, hr⟩
  have HR := Lib.hid (hr.of_fr (((Fr.refl [] w).alloc _).drewN _) (by simp))
  clear hr
  go_wp2_with fail
  go_ret
  exact ropen_cyc E.out rfl HR.out

theorem rsmall_f (g : Nat) (c : Nat → Int) (kind words first most : Int) (s : St) (l : List Int) (rv : Value) (v : Vw) (w : World)
    (P : RB w g c kind words first most l false false rv) (hok : Ok s l) (hp : s.ph = .small) (sb : Bool) (h1 : v.eden < words) (hm : s.ma = true) (ha : s.al = true) :
    Calls Tryz.prog 99 #[.pointer (some ⟨g, 0, none⟩), .agg #[.int .i64 v.eden, .int .i64 v.young, .int .i64 v.ten, .int .i64 v.room], .bool sb, .bool true] w
      (ROpen g c kind words first most l rv (openR words most s v) w) := by
  have HP := Lib.hid P
  have HOK := Lib.hid hok
  have hl := hok.len3
  have h15 : w.cell? ⟨g, 15, none⟩ = some (.int .i64 words) := P.B.cell 15
  have h17 : w.cell? ⟨g, 17, none⟩ = some (.int .i64 most) := P.B.cell 17
  have h19 : w.cell? ⟨g, 19, none⟩ = some (.bool false) := P.B.cell 19
  have hf19 := P.B.free 19
  have hg := P.B.lt
  have E : Hid (openR words most s v = (6, true)) := by simp [openR, stepOf, hp, Int.not_le.2 h1, hm, ha, Hid]
  clear P hok
  have AL : Hid (decide ((2 : Int) ∈ l) = true) := by simp [HOK.out.al, ha, Hid]
  rcases Bool.eq_false_or_eq_true ((l.length : Int) == 0) with hz | hz
  · exfalso
    have := (none_ran HOK.out (by simpa using hz)).2.2
    rw [hm] at this
    cases this
  clear hp hm ha
  have h18 : w.cell? ⟨g, 18, none⟩ = some rv := HP.out.B.cell 18
  obtain ⟨A, cap, hrv⟩ := own_form HP.out.O
  rw [hrv] at h18
  have HRV := Lib.hid hrv
  clear hrv
  go_enter Tryz.func99, Tryz.ntmps99
  go_wp2
  go_quiet (fail)
  go_wp2_with fail
  refine (ran_any g c kind words first most l false false rv 2 _ (HP.out.aldr _ _) hl).mono ?_
  rintro e w2 ⟨rfl, rfl⟩
  rw [AL.out]
  go_wp2_with fail
  go_ret
  exact ropen_none E.out rfl (HP.out.aldr _ _).close ((((Fr.refl [g] w).alloc _).drewN _).setCell (by simp) _)

theorem rsmall_g (g : Nat) (c : Nat → Int) (kind words first most : Int) (s : St) (l : List Int) (rv : Value) (v : Vw) (w : World)
    (P : RB w g c kind words first most l false false rv) (hok : Ok s l) (hp : s.ph = .small) (h1 : v.eden < words) (hm : s.ma = true) (ha : s.al = false) (h3 : v.room < v.young) :
    Calls Tryz.prog 99 #[.pointer (some ⟨g, 0, none⟩), .agg #[.int .i64 v.eden, .int .i64 v.young, .int .i64 v.ten, .int .i64 v.room], .bool false, .bool true] w
      (ROpen g c kind words first most l rv (openR words most s v) w) := by
  have HP := Lib.hid P
  have HOK := Lib.hid hok
  have hl := hok.len3
  have h15 : w.cell? ⟨g, 15, none⟩ = some (.int .i64 words) := P.B.cell 15
  have h17 : w.cell? ⟨g, 17, none⟩ = some (.int .i64 most) := P.B.cell 17
  have h19 : w.cell? ⟨g, 19, none⟩ = some (.bool false) := P.B.cell 19
  have hf19 := P.B.free 19
  have hg := P.B.lt
  have E : Hid (openR words most s v = (6, true)) := by simp [openR, stepOf, hp, Int.not_le.2 h1, Int.not_le.2 h3, hm, ha, Hid]
  clear P hok
  have AL : Hid (decide ((2 : Int) ∈ l) = false) := by simp [HOK.out.al, ha, Hid]
  rcases Bool.eq_false_or_eq_true ((l.length : Int) == 0) with hz | hz
  · exfalso
    have := (none_ran HOK.out (by simpa using hz)).2.2
    rw [hm] at this
    cases this
  clear hp hm ha
  have h18 : w.cell? ⟨g, 18, none⟩ = some rv := HP.out.B.cell 18
  obtain ⟨A, cap, hrv⟩ := own_form HP.out.O
  rw [hrv] at h18
  have HRV := Lib.hid hrv
  clear hrv
  go_enter Tryz.func99, Tryz.ntmps99
  go_wp2
  go_quiet (fail)
  go_wp2_with fail
  refine (ran_any g c kind words first most l false false rv 2 _ (HP.out.aldr _ _) hl).mono ?_
  rintro e w2 ⟨rfl, rfl⟩
  rw [AL.out]
  go_wp2_with fail
  go_ret
  exact ropen_none E.out rfl (HP.out.aldr _ _).close ((((Fr.refl [g] w).alloc _).drewN _).setCell (by simp) _)

theorem rsmall_any (g : Nat) (c : Nat → Int) (kind words first most : Int) (s : St) (l : List Int) (rv : Value) (v : Vw) (sb m : Bool) (w : World)
    (P : RB w g c kind words first most l false false rv) (hok : Ok s l) (hp : s.ph = .small) (hm : s.ma = m) (hs : decide (v.young ≤ v.room) = sb) :
    Calls Tryz.prog 99 #[.pointer (some ⟨g, 0, none⟩), .agg #[.int .i64 v.eden, .int .i64 v.young, .int .i64 v.ten, .int .i64 v.room], .bool sb, .bool m] w
      (ROpen g c kind words first most l rv (openR words most s v) w) := by
  by_cases h1 : words ≤ v.eden
  · exact rsmall_a g c kind words first most s l rv v w P hok hp sb m h1
  have h1' : v.eden < words := by omega
  cases m with
  | false =>
    cases sb with
    | false => exact rsmall_d g c kind words first most s l rv v w P hok hp h1' hm (by simpa using hs)
    | true =>
      by_cases h2 : l = []
      · exact rsmall_b g c kind words first most s l rv v w P hok hp false h1' h2 (by simpa using hs)
      · exact rsmall_c g c kind words first most s l rv v w P hok hp true h1' h2 hm
  | true =>
    rcases Bool.eq_false_or_eq_true s.al with ha | ha
    · exact rsmall_f g c kind words first most s l rv v w P hok hp sb h1' hm ha
    · cases sb with
      | false => exact rsmall_g g c kind words first most s l rv v w P hok hp h1' hm ha (by simpa using hs)
      | true => exact rsmall_e g c kind words first most s l rv v w P hok hp h1' hm ha (by simpa using hs)
end Go.Proofs.YtdcppdgnekhcgaaGreatDoor
