/-
  The program's turn, its two steps of an allocation.
-/
import Derived.Test.YtdcppdgnekhcgaaGreatDoorPol2
namespace Go.Proofs.YtdcppdgnekhcgaaGreatDoor
open Go.RowKit Pol
set_option maxRecDepth 100000
set_option linter.unusedVariables false

theorem small_a (g : Nat) (c : Nat → Int) (base limit words : Int) (s : St) (cyc : Value) (v : Vw) (w : World)
    (hb : Bk w g 100 (turnC c base limit words (ranI s.mi s.al s.ma) cyc (stepV .small))) (hp : s.ph = .small) (h1 : words ≤ v.eden) :
    Calls Tryz.prog 60 #[.pointer (some ⟨g, 0, none⟩), .agg #[.int .i64 v.eden, .int .i64 v.young, .int .i64 v.ten, .int .i64 v.room]] w
      (StepPost g c base limit words (ranI s.mi s.al s.ma) cyc (stepOf words limit s v) w) := by
  have HB := Lib.hid hb
  have h16 : w.cell? ⟨g, 16, none⟩ = some (.int .i64 words) := hb.cell 16
  have h17 : w.cell? ⟨g, 17, none⟩ = some (.int .i64 (ranI s.mi s.al s.ma)) := hb.cell 17
  have hlt := hb.lt
  have E : Hid (stepOf words limit s v = (1, .closing)) := by simp [stepOf, hp, h1, Hid]
  clear hb hp
  go_enter Tryz.func60, Tryz.ntmps60
  go_wp2
  go_quiet (fail)
  go_wp2_with fail
  refine (last_any g c base limit words _ cyc _ 1 _ ((HB.out.alloc _).drewN _)).mono ?_
  rintro e w2 ⟨rfl, hb, hf⟩
  have HB2 := Lib.hid hb
  have HF2 : Hid (Fr [g] w w2) := (((Fr.refl [g] w).alloc _).drewN _).trans hf (by simp)
  clear hb hf
  go_wp2_with fail
  go_ret
  rw [E.out]
  exact ⟨rfl, HB2.out, HF2.out⟩

theorem small_b (g : Nat) (c : Nat → Int) (base limit words : Int) (s : St) (cyc : Value) (v : Vw) (w : World)
    (hb : Bk w g 100 (turnC c base limit words (ranI s.mi s.al s.ma) cyc (stepV .small))) (hp : s.ph = .small) (h1 : v.eden < words) (hm : s.mi = false) (hl : s.al = false) (ha : s.ma = false) (h2 : v.young ≤ v.room) :
    Calls Tryz.prog 60 #[.pointer (some ⟨g, 0, none⟩), .agg #[.int .i64 v.eden, .int .i64 v.young, .int .i64 v.ten, .int .i64 v.room]] w
      (StepPost g c base limit words (ranI s.mi s.al s.ma) cyc (stepOf words limit s v) w) := by
  have HB := Lib.hid hb
  have h16 : w.cell? ⟨g, 16, none⟩ = some (.int .i64 words) := hb.cell 16
  have h17 : w.cell? ⟨g, 17, none⟩ = some (.int .i64 (ranI s.mi s.al s.ma)) := hb.cell 17
  have hlt := hb.lt
  have E : Hid (stepOf words limit s v = (3, .small)) := by simp [stepOf, hp, hm, hl, ha, h2, Int.not_le.2 h1, Hid]
  have e0 : ((ranI s.mi s.al s.ma) == 0) = true := by rw [beq_iff_eq, ran0]; exact ⟨hm, hl, ha⟩
  have HM := Lib.hid (And.intro hm (And.intro hl ha))
  clear hm hl ha
  clear hb hp
  go_enter Tryz.func60, Tryz.ntmps60
  go_wp2
  go_quiet (fail)
  go_wp2_with fail
  refine (guaranteed_any v _).mono ?_
  rintro e w1 ⟨rfl, hf⟩
  have HB1 := Lib.hid (((HB.out.alloc _).drewN _).fr hf (by simp))
  have HF1 : Hid (Fr [g] w w1) := (((Fr.refl [g] w).alloc _).drewN _).trans hf (by simp)
  have h17' : w1.cell? ⟨g, 17, none⟩ = some (.int .i64 (ranI s.mi s.al s.ma)) := HB1.out.cell 17
  clear hf
  go_wp2_with fail
  go_ret
  rw [E.out]
  exact ⟨rfl, HB1.out, HF1.out⟩

theorem small_c (g : Nat) (c : Nat → Int) (base limit words : Int) (s : St) (cyc : Value) (v : Vw) (w : World)
    (hb : Bk w g 100 (turnC c base limit words (ranI s.mi s.al s.ma) cyc (stepV .small))) (hp : s.ph = .small) (h1 : v.eden < words) (hm : s.mi = false) (hl : s.al = false) (ha : s.ma = false) (h2 : v.room < v.young) :
    Calls Tryz.prog 60 #[.pointer (some ⟨g, 0, none⟩), .agg #[.int .i64 v.eden, .int .i64 v.young, .int .i64 v.ten, .int .i64 v.room]] w
      (StepPost g c base limit words (ranI s.mi s.al s.ma) cyc (stepOf words limit s v) w) := by
  have HB := Lib.hid hb
  have h16 : w.cell? ⟨g, 16, none⟩ = some (.int .i64 words) := hb.cell 16
  have h17 : w.cell? ⟨g, 17, none⟩ = some (.int .i64 (ranI s.mi s.al s.ma)) := hb.cell 17
  have hlt := hb.lt
  have E : Hid (stepOf words limit s v = (5, .small)) := by simp [stepOf, hp, hm, hl, ha, Int.not_le.2 h2, Int.not_le.2 h1, Hid]
  have e0 : ((ranI s.mi s.al s.ma) == 0) = true := by rw [beq_iff_eq, ran0]; exact ⟨hm, hl, ha⟩
  have e4 : bits .and .i64 (ranI s.mi s.al s.ma) 4 = 0 := by rw [and4, ha]; rfl
  have HM := Lib.hid (And.intro hm (And.intro hl ha))
  clear hm hl ha
  clear hb hp
  go_enter Tryz.func60, Tryz.ntmps60
  go_wp2
  go_quiet (fail)
  go_wp2_with fail
  refine (guaranteed_any v _).mono ?_
  rintro e w1 ⟨rfl, hf⟩
  have HB1 := Lib.hid (((HB.out.alloc _).drewN _).fr hf (by simp))
  have HF1 : Hid (Fr [g] w w1) := (((Fr.refl [g] w).alloc _).drewN _).trans hf (by simp)
  have h17' : w1.cell? ⟨g, 17, none⟩ = some (.int .i64 (ranI s.mi s.al s.ma)) := HB1.out.cell 17
  clear hf
  go_wp2_with fail
  go_ret
  rw [E.out]
  exact ⟨rfl, HB1.out, HF1.out⟩

theorem small_d (g : Nat) (c : Nat → Int) (base limit words : Int) (s : St) (cyc : Value) (v : Vw) (w : World)
    (hb : Bk w g 100 (turnC c base limit words (ranI s.mi s.al s.ma) cyc (stepV .small))) (hp : s.ph = .small) (h1 : v.eden < words) (hn : ¬ (s.mi = false ∧ s.al = false)) (ha : s.ma = false) :
    Calls Tryz.prog 60 #[.pointer (some ⟨g, 0, none⟩), .agg #[.int .i64 v.eden, .int .i64 v.young, .int .i64 v.ten, .int .i64 v.room]] w
      (StepPost g c base limit words (ranI s.mi s.al s.ma) cyc (stepOf words limit s v) w) := by
  have HB := Lib.hid hb
  have h16 : w.cell? ⟨g, 16, none⟩ = some (.int .i64 words) := hb.cell 16
  have h17 : w.cell? ⟨g, 17, none⟩ = some (.int .i64 (ranI s.mi s.al s.ma)) := hb.cell 17
  have hlt := hb.lt
  have E : Hid (stepOf words limit s v = (5, .small)) := by
    have hn' : ¬ ((s.mi = false ∧ s.al = false ∧ s.ma = false) ∧ v.young ≤ v.room) := fun h => hn ⟨h.1.1, h.1.2.1⟩
    unfold Hid
    simp only [stepOf, hp]
    rw [if_neg (Int.not_le.2 h1), if_neg hn', if_pos ha]
  have e0 : ((ranI s.mi s.al s.ma) == 0) = false := by rw [beq_eq_false_iff_ne]; intro e; rw [ran0] at e; exact hn ⟨e.1, e.2.1⟩
  have e4 : bits .and .i64 (ranI s.mi s.al s.ma) 4 = 0 := by rw [and4, ha]; rfl
  have HM := Lib.hid (And.intro hn ha)
  clear hn ha
  clear hb hp
  go_enter Tryz.func60, Tryz.ntmps60
  go_wp2
  go_quiet (fail)
  go_wp2_with fail
  go_ret
  rw [E.out]
  exact ⟨rfl, (HB.out.alloc _).drewN _, ((Fr.refl [g] w).alloc _).drewN _⟩

theorem small_e (g : Nat) (c : Nat → Int) (base limit words : Int) (s : St) (cyc : Value) (v : Vw) (w : World)
    (hb : Bk w g 100 (turnC c base limit words (ranI s.mi s.al s.ma) cyc (stepV .small))) (hp : s.ph = .small) (h1 : v.eden < words) (hl : s.al = false) (ha : s.ma = true) (h2 : v.young ≤ v.room) :
    Calls Tryz.prog 60 #[.pointer (some ⟨g, 0, none⟩), .agg #[.int .i64 v.eden, .int .i64 v.young, .int .i64 v.ten, .int .i64 v.room]] w
      (StepPost g c base limit words (ranI s.mi s.al s.ma) cyc (stepOf words limit s v) w) := by
  have HB := Lib.hid hb
  have h16 : w.cell? ⟨g, 16, none⟩ = some (.int .i64 words) := hb.cell 16
  have h17 : w.cell? ⟨g, 17, none⟩ = some (.int .i64 (ranI s.mi s.al s.ma)) := hb.cell 17
  have hlt := hb.lt
  have E : Hid (stepOf words limit s v = (4, .small)) := by simp [stepOf, hp, hl, ha, h2, Int.not_le.2 h1, Hid]
  have e0 : ((ranI s.mi s.al s.ma) == 0) = false := by rw [beq_eq_false_iff_ne]; intro e; rw [ran0] at e; rw [ha] at e; exact absurd e.2.2 (by simp)
  have e4 : bits .and .i64 (ranI s.mi s.al s.ma) 4 = 4 := by rw [and4, ha]; rfl
  have e2 : bits .and .i64 (ranI s.mi s.al s.ma) 2 = 0 := by rw [and2, hl]; rfl
  have HM := Lib.hid (And.intro hl ha)
  clear hl ha
  clear hb hp
  go_enter Tryz.func60, Tryz.ntmps60
  go_wp2
  go_quiet (fail)
  go_wp2_with fail
  refine (guaranteed_any v _).mono ?_
  rintro e w1 ⟨rfl, hf⟩
  have HB1 := Lib.hid (((HB.out.alloc _).drewN _).fr hf (by simp))
  have HF1 : Hid (Fr [g] w w1) := (((Fr.refl [g] w).alloc _).drewN _).trans hf (by simp)
  have h17' : w1.cell? ⟨g, 17, none⟩ = some (.int .i64 (ranI s.mi s.al s.ma)) := HB1.out.cell 17
  clear hf
  go_wp2_with fail
  go_ret
  rw [E.out]
  exact ⟨rfl, HB1.out, HF1.out⟩

theorem small_f (g : Nat) (c : Nat → Int) (base limit words : Int) (s : St) (cyc : Value) (v : Vw) (w : World)
    (hb : Bk w g 100 (turnC c base limit words (ranI s.mi s.al s.ma) cyc (stepV .small))) (hp : s.ph = .small) (h1 : v.eden < words) (hl : s.al = false) (ha : s.ma = true) (h2 : v.room < v.young) :
    Calls Tryz.prog 60 #[.pointer (some ⟨g, 0, none⟩), .agg #[.int .i64 v.eden, .int .i64 v.young, .int .i64 v.ten, .int .i64 v.room]] w
      (StepPost g c base limit words (ranI s.mi s.al s.ma) cyc (stepOf words limit s v) w) := by
  have HB := Lib.hid hb
  have h16 : w.cell? ⟨g, 16, none⟩ = some (.int .i64 words) := hb.cell 16
  have h17 : w.cell? ⟨g, 17, none⟩ = some (.int .i64 (ranI s.mi s.al s.ma)) := hb.cell 17
  have hlt := hb.lt
  have E : Hid (stepOf words limit s v = (6, .closing)) := by simp [stepOf, hp, hl, ha, Int.not_le.2 h2, Int.not_le.2 h1, Hid]
  have e0 : ((ranI s.mi s.al s.ma) == 0) = false := by rw [beq_eq_false_iff_ne]; intro e; rw [ran0] at e; rw [ha] at e; exact absurd e.2.2 (by simp)
  have e4 : bits .and .i64 (ranI s.mi s.al s.ma) 4 = 4 := by rw [and4, ha]; rfl
  have e2 : bits .and .i64 (ranI s.mi s.al s.ma) 2 = 0 := by rw [and2, hl]; rfl
  have HM := Lib.hid (And.intro hl ha)
  clear hl ha
  clear hb hp
  go_enter Tryz.func60, Tryz.ntmps60
  go_wp2
  go_quiet (fail)
  go_wp2_with fail
  refine (guaranteed_any v _).mono ?_
  rintro e w1 ⟨rfl, hf⟩
  have HB1 := Lib.hid (((HB.out.alloc _).drewN _).fr hf (by simp))
  have HF1 : Hid (Fr [g] w w1) := (((Fr.refl [g] w).alloc _).drewN _).trans hf (by simp)
  have h17' : w1.cell? ⟨g, 17, none⟩ = some (.int .i64 (ranI s.mi s.al s.ma)) := HB1.out.cell 17
  clear hf
  go_wp2_with fail
  refine (last_any g c base limit words _ cyc _ 6 _ HB1.out).mono ?_
  rintro e w2 ⟨rfl, hb, hf⟩
  have HB2 := Lib.hid hb
  have HF2 : Hid (Fr [g] w w2) := HF1.out.trans hf (by simp)
  clear hb hf
  go_wp2_with fail
  go_ret
  rw [E.out]
  exact ⟨rfl, HB2.out, HF2.out⟩

theorem small_g (g : Nat) (c : Nat → Int) (base limit words : Int) (s : St) (cyc : Value) (v : Vw) (w : World)
    (hb : Bk w g 100 (turnC c base limit words (ranI s.mi s.al s.ma) cyc (stepV .small))) (hp : s.ph = .small) (h1 : v.eden < words) (hl : s.al = true) (ha : s.ma = true) :
    Calls Tryz.prog 60 #[.pointer (some ⟨g, 0, none⟩), .agg #[.int .i64 v.eden, .int .i64 v.young, .int .i64 v.ten, .int .i64 v.room]] w
      (StepPost g c base limit words (ranI s.mi s.al s.ma) cyc (stepOf words limit s v) w) := by
  have HB := Lib.hid hb
  have h16 : w.cell? ⟨g, 16, none⟩ = some (.int .i64 words) := hb.cell 16
  have h17 : w.cell? ⟨g, 17, none⟩ = some (.int .i64 (ranI s.mi s.al s.ma)) := hb.cell 17
  have hlt := hb.lt
  have E : Hid (stepOf words limit s v = (6, .closing)) := by simp [stepOf, hp, hl, ha, Int.not_le.2 h1, Hid]
  have e0 : ((ranI s.mi s.al s.ma) == 0) = false := by rw [beq_eq_false_iff_ne]; intro e; rw [ran0] at e; rw [ha] at e; exact absurd e.2.2 (by simp)
  have e4 : bits .and .i64 (ranI s.mi s.al s.ma) 4 = 4 := by rw [and4, ha]; rfl
  have e2 : bits .and .i64 (ranI s.mi s.al s.ma) 2 = 2 := by rw [and2, hl]; rfl
  have HM := Lib.hid (And.intro hl ha)
  clear hl ha
  clear hb hp
  go_enter Tryz.func60, Tryz.ntmps60
  go_wp2
  go_quiet (fail)
  go_wp2_with fail
  refine (last_any g c base limit words _ cyc _ 6 _ ((HB.out.alloc _).drewN _)).mono ?_
  rintro e w2 ⟨rfl, hb, hf⟩
  have HB2 := Lib.hid hb
  have HF2 : Hid (Fr [g] w w2) := (((Fr.refl [g] w).alloc _).drewN _).trans hf (by simp)
  clear hb hf
  go_wp2_with fail
  go_ret
  rw [E.out]
  exact ⟨rfl, HB2.out, HF2.out⟩

theorem small_any (g : Nat) (c : Nat → Int) (base limit words : Int) (s : St) (cyc : Value) (v : Vw) (w : World)
    (hb : Bk w g 100 (turnC c base limit words (ranI s.mi s.al s.ma) cyc (stepV .small))) (hp : s.ph = .small) :
    Calls Tryz.prog 60 #[.pointer (some ⟨g, 0, none⟩), .agg #[.int .i64 v.eden, .int .i64 v.young, .int .i64 v.ten, .int .i64 v.room]] w
      (StepPost g c base limit words (ranI s.mi s.al s.ma) cyc (stepOf words limit s v) w) := by
  by_cases h1 : words ≤ v.eden
  · exact small_a g c base limit words s cyc v w hb hp h1
  · have h1' : v.eden < words := by omega
    rcases Bool.eq_false_or_eq_true s.ma with ha | ha
    · rcases Bool.eq_false_or_eq_true s.al with hl | hl
      · exact small_g g c base limit words s cyc v w hb hp h1' hl ha
      · by_cases h2 : v.young ≤ v.room
        · exact small_e g c base limit words s cyc v w hb hp h1' hl ha h2
        · exact small_f g c base limit words s cyc v w hb hp h1' hl ha (by omega)
    · by_cases hn : s.mi = false ∧ s.al = false
      · by_cases h2 : v.young ≤ v.room
        · exact small_b g c base limit words s cyc v w hb hp h1' hn.1 hn.2 ha h2
        · exact small_c g c base limit words s cyc v w hb hp h1' hn.1 hn.2 ha (by omega)
      · exact small_d g c base limit words s cyc v w hb hp h1' hn ha

theorem big_a (g : Nat) (c : Nat → Int) (base limit words : Int) (s : St) (cyc : Value) (v : Vw) (w : World)
    (hb : Bk w g 100 (turnC c base limit words (ranI s.mi s.al s.ma) cyc (stepV .big))) (hp : s.ph = .big) (hl0 : 0 ≤ limit) (hl1 : limit ≤ 4294967296) (hw0 : 2 ≤ words) (hw1 : words ≤ 9223372036854775807) (h1 : words ≤ v.room) (ha : s.ma = true) :
    Calls Tryz.prog 62 #[.pointer (some ⟨g, 0, none⟩), .agg #[.int .i64 v.eden, .int .i64 v.young, .int .i64 v.ten, .int .i64 v.room]] w
      (StepPost g c base limit words (ranI s.mi s.al s.ma) cyc (stepOf words limit s v) w) := by
  have HB := Lib.hid hb
  have h15 : w.cell? ⟨g, 15, none⟩ = some (.int .i64 limit) := hb.cell 15
  have h16 : w.cell? ⟨g, 16, none⟩ = some (.int .i64 words) := hb.cell 16
  have h17 : w.cell? ⟨g, 17, none⟩ = some (.int .i64 (ranI s.mi s.al s.ma)) := hb.cell 17
  have hlt := hb.lt
  have E : Hid (stepOf words limit s v = (2, .closing)) := by simp [stepOf, hp, h1, ha, Hid]
  have e4 : bits .and .i64 (ranI s.mi s.al s.ma) 4 = 4 := by rw [and4, ha]; rfl
  have HM := Lib.hid ha
  clear ha
  clear hb hp
  go_enter Tryz.func62, Tryz.ntmps62
  go_wp2
  go_quiet (fail)
  go_wp2_with fail
  refine (last_any g c base limit words _ cyc _ 2 _ ((HB.out.alloc _).drewN _)).mono ?_
  rintro e w2 ⟨rfl, hb, hf⟩
  have HB2 := Lib.hid hb
  have HF2 : Hid (Fr [g] w w2) := (((Fr.refl [g] w).alloc _).drewN _).trans hf (by simp)
  clear hb hf
  go_wp2_with fail
  go_ret
  rw [E.out]
  exact ⟨rfl, HB2.out, HF2.out⟩

theorem big_b (g : Nat) (c : Nat → Int) (base limit words : Int) (s : St) (cyc : Value) (v : Vw) (w : World)
    (hb : Bk w g 100 (turnC c base limit words (ranI s.mi s.al s.ma) cyc (stepV .big))) (hp : s.ph = .big) (hl0 : 0 ≤ limit) (hl1 : limit ≤ 4294967296) (hw0 : 2 ≤ words) (hw1 : words ≤ 9223372036854775807) (h1 : words ≤ v.room) (ha : s.ma = false) (h2 : v.ten ≤ limit - words) :
    Calls Tryz.prog 62 #[.pointer (some ⟨g, 0, none⟩), .agg #[.int .i64 v.eden, .int .i64 v.young, .int .i64 v.ten, .int .i64 v.room]] w
      (StepPost g c base limit words (ranI s.mi s.al s.ma) cyc (stepOf words limit s v) w) := by
  have HB := Lib.hid hb
  have h15 : w.cell? ⟨g, 15, none⟩ = some (.int .i64 limit) := hb.cell 15
  have h16 : w.cell? ⟨g, 16, none⟩ = some (.int .i64 words) := hb.cell 16
  have h17 : w.cell? ⟨g, 17, none⟩ = some (.int .i64 (ranI s.mi s.al s.ma)) := hb.cell 17
  have hlt := hb.lt
  have E : Hid (stepOf words limit s v = (2, .closing)) := by simp [stepOf, hp, h1, ha, h2, Hid]
  have e4 : bits .and .i64 (ranI s.mi s.al s.ma) 4 = 0 := by rw [and4, ha]; rfl
  have HM := Lib.hid ha
  clear ha
  clear hb hp
  go_enter Tryz.func62, Tryz.ntmps62
  go_wp2
  go_quiet (fail)
  go_wp2_with fail
  refine (last_any g c base limit words _ cyc _ 2 _ ((HB.out.alloc _).drewN _)).mono ?_
  rintro e w2 ⟨rfl, hb, hf⟩
  have HB2 := Lib.hid hb
  have HF2 : Hid (Fr [g] w w2) := (((Fr.refl [g] w).alloc _).drewN _).trans hf (by simp)
  clear hb hf
  go_wp2_with fail
  go_ret
  rw [E.out]
  exact ⟨rfl, HB2.out, HF2.out⟩

theorem big_c (g : Nat) (c : Nat → Int) (base limit words : Int) (s : St) (cyc : Value) (v : Vw) (w : World)
    (hb : Bk w g 100 (turnC c base limit words (ranI s.mi s.al s.ma) cyc (stepV .big))) (hp : s.ph = .big) (hl0 : 0 ≤ limit) (hl1 : limit ≤ 4294967296) (hw0 : 2 ≤ words) (hw1 : words ≤ 9223372036854775807) (h1 : words ≤ v.room) (ha : s.ma = false) (h2 : limit - words < v.ten) :
    Calls Tryz.prog 62 #[.pointer (some ⟨g, 0, none⟩), .agg #[.int .i64 v.eden, .int .i64 v.young, .int .i64 v.ten, .int .i64 v.room]] w
      (StepPost g c base limit words (ranI s.mi s.al s.ma) cyc (stepOf words limit s v) w) := by
  have HB := Lib.hid hb
  have h15 : w.cell? ⟨g, 15, none⟩ = some (.int .i64 limit) := hb.cell 15
  have h16 : w.cell? ⟨g, 16, none⟩ = some (.int .i64 words) := hb.cell 16
  have h17 : w.cell? ⟨g, 17, none⟩ = some (.int .i64 (ranI s.mi s.al s.ma)) := hb.cell 17
  have hlt := hb.lt
  have E : Hid (stepOf words limit s v = (5, .big)) := by simp [stepOf, hp, h1, ha, Int.not_le.2 h2, Hid]
  have e4 : bits .and .i64 (ranI s.mi s.al s.ma) 4 = 0 := by rw [and4, ha]; rfl
  have HM := Lib.hid ha
  clear ha
  clear hb hp
  go_enter Tryz.func62, Tryz.ntmps62
  go_wp2
  go_quiet (fail)
  go_wp2_with fail
  go_ret
  rw [E.out]
  exact ⟨rfl, (HB.out.alloc _).drewN _, ((Fr.refl [g] w).alloc _).drewN _⟩

theorem big_d (g : Nat) (c : Nat → Int) (base limit words : Int) (s : St) (cyc : Value) (v : Vw) (w : World)
    (hb : Bk w g 100 (turnC c base limit words (ranI s.mi s.al s.ma) cyc (stepV .big))) (hp : s.ph = .big) (hl0 : 0 ≤ limit) (hl1 : limit ≤ 4294967296) (hw0 : 2 ≤ words) (hw1 : words ≤ 9223372036854775807) (h1 : v.room < words) (ha : s.ma = false) :
    Calls Tryz.prog 62 #[.pointer (some ⟨g, 0, none⟩), .agg #[.int .i64 v.eden, .int .i64 v.young, .int .i64 v.ten, .int .i64 v.room]] w
      (StepPost g c base limit words (ranI s.mi s.al s.ma) cyc (stepOf words limit s v) w) := by
  have HB := Lib.hid hb
  have h15 : w.cell? ⟨g, 15, none⟩ = some (.int .i64 limit) := hb.cell 15
  have h16 : w.cell? ⟨g, 16, none⟩ = some (.int .i64 words) := hb.cell 16
  have h17 : w.cell? ⟨g, 17, none⟩ = some (.int .i64 (ranI s.mi s.al s.ma)) := hb.cell 17
  have hlt := hb.lt
  have E : Hid (stepOf words limit s v = (5, .big)) := by simp [stepOf, hp, Int.not_le.2 h1, ha, Hid]
  have hd : decide (words ≤ v.room) = false := by simpa using h1
  have e4 : bits .and .i64 (ranI s.mi s.al s.ma) 4 = 0 := by rw [and4, ha]; rfl
  have HM := Lib.hid ha
  clear ha
  clear hb hp
  go_enter Tryz.func62, Tryz.ntmps62
  go_wp2
  go_quiet (fail)
  go_wp2_with fail
  go_ret
  rw [E.out]
  exact ⟨rfl, (HB.out.alloc _).drewN _, ((Fr.refl [g] w).alloc _).drewN _⟩

theorem big_e (g : Nat) (c : Nat → Int) (base limit words : Int) (s : St) (cyc : Value) (v : Vw) (w : World)
    (hb : Bk w g 100 (turnC c base limit words (ranI s.mi s.al s.ma) cyc (stepV .big))) (hp : s.ph = .big) (hl0 : 0 ≤ limit) (hl1 : limit ≤ 4294967296) (hw0 : 2 ≤ words) (hw1 : words ≤ 9223372036854775807) (h1 : v.room < words) (ha : s.ma = true) :
    Calls Tryz.prog 62 #[.pointer (some ⟨g, 0, none⟩), .agg #[.int .i64 v.eden, .int .i64 v.young, .int .i64 v.ten, .int .i64 v.room]] w
      (StepPost g c base limit words (ranI s.mi s.al s.ma) cyc (stepOf words limit s v) w) := by
  have HB := Lib.hid hb
  have h15 : w.cell? ⟨g, 15, none⟩ = some (.int .i64 limit) := hb.cell 15
  have h16 : w.cell? ⟨g, 16, none⟩ = some (.int .i64 words) := hb.cell 16
  have h17 : w.cell? ⟨g, 17, none⟩ = some (.int .i64 (ranI s.mi s.al s.ma)) := hb.cell 17
  have hlt := hb.lt
  have E : Hid (stepOf words limit s v = (6, .closing)) := by simp [stepOf, hp, Int.not_le.2 h1, ha, Hid]
  have hd : decide (words ≤ v.room) = false := by simpa using h1
  have e4 : bits .and .i64 (ranI s.mi s.al s.ma) 4 = 4 := by rw [and4, ha]; rfl
  have HM := Lib.hid ha
  clear ha
  clear hb hp
  go_enter Tryz.func62, Tryz.ntmps62
  go_wp2
  go_quiet (fail)
  go_wp2_with fail
  refine (last_any g c base limit words _ cyc _ 6 _ ((HB.out.alloc _).drewN _)).mono ?_
  rintro e w2 ⟨rfl, hb, hf⟩
  have HB2 := Lib.hid hb
  have HF2 : Hid (Fr [g] w w2) := (((Fr.refl [g] w).alloc _).drewN _).trans hf (by simp)
  clear hb hf
  go_wp2_with fail
  go_ret
  rw [E.out]
  exact ⟨rfl, HB2.out, HF2.out⟩

theorem big_any (g : Nat) (c : Nat → Int) (base limit words : Int) (s : St) (cyc : Value) (v : Vw) (w : World)
    (hb : Bk w g 100 (turnC c base limit words (ranI s.mi s.al s.ma) cyc (stepV .big))) (hp : s.ph = .big) (hl0 : 0 ≤ limit) (hl1 : limit ≤ 4294967296) (hw0 : 2 ≤ words) (hw1 : words ≤ 9223372036854775807) :
    Calls Tryz.prog 62 #[.pointer (some ⟨g, 0, none⟩), .agg #[.int .i64 v.eden, .int .i64 v.young, .int .i64 v.ten, .int .i64 v.room]] w
      (StepPost g c base limit words (ranI s.mi s.al s.ma) cyc (stepOf words limit s v) w) := by
  by_cases h1 : words ≤ v.room
  · rcases Bool.eq_false_or_eq_true s.ma with ha | ha
    · exact big_a g c base limit words s cyc v w hb hp hl0 hl1 hw0 hw1 h1 ha
    · by_cases h2 : v.ten ≤ limit - words
      · exact big_b g c base limit words s cyc v w hb hp hl0 hl1 hw0 hw1 h1 ha h2
      · exact big_c g c base limit words s cyc v w hb hp hl0 hl1 hw0 hw1 h1 ha (by omega)
  · rcases Bool.eq_false_or_eq_true s.ma with ha | ha
    · exact big_e g c base limit words s cyc v w hb hp hl0 hl1 hw0 hw1 (by omega) ha
    · exact big_d g c base limit words s cyc v w hb hp hl0 hl1 hw0 hw1 (by omega) ha
end Go.Proofs.YtdcppdgnekhcgaaGreatDoor
