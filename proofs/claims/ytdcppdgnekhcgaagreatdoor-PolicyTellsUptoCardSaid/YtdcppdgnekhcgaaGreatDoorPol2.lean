/-
  The program's turn, piece by piece: what each function that a turn can stand at answers to a view, and where the turn stands then.
-/
import Derived.Test.YtdcppdgnekhcgaaGreatDoorPol1
import Derived.Laws.EntriesVeiled
namespace Go.Proofs.YtdcppdgnekhcgaaGreatDoor
open Go.RowKit Pol
set_option maxRecDepth 100000

/-- The program's turn in its block. -/
def turnC (c : Nat → Int) (base limit words ran : Int) (cyc step : Value) : Array Value := #[.int .i64 (c 0), .int .i64 (c 1), .int .i64 (c 2), .int .i64 (c 3), .int .i64 (c 4), .int .i64 (c 5), .int .i64 (c 6), .int .i64 (c 7), .int .i64 (c 8), .int .i64 (c 9), .int .i64 (c 10), .int .i64 (c 11), .int .i64 (c 12), .int .i64 (c 13), .int .i64 base, .int .i64 limit, .int .i64 words, .int .i64 ran, cyc, step]
/-- What stands in 'step'. -/
def stepV : Ph → Value
  | .small => .func (.func 60) #[] #[]
  | .big => .func (.func 62) #[] #[]
  | .minor => .func (.func 63) #[] #[]
  | .all => .func (.func 65) #[] #[]
  | .major => .func (.func 66) #[] #[]
  | .closing => .func (.func 68) #[] #[]
  | .fin => .func (.func 95) #[] #[]

theorem and4 (mi al ma : Bool) : bits .and .i64 (ranI mi al ma) 4 = if ma then 4 else 0 := by cases mi <;> cases al <;> cases ma <;> rfl
theorem and2 (mi al ma : Bool) : bits .and .i64 (ranI mi al ma) 2 = if al then 2 else 0 := by cases mi <;> cases al <;> cases ma <;> rfl
theorem or1 (mi al ma : Bool) : bits .or .i64 (ranI mi al ma) 1 = ranI true al ma := by cases mi <;> cases al <;> cases ma <;> rfl
theorem or2 (mi al ma : Bool) : bits .or .i64 (ranI mi al ma) 2 = ranI mi true ma := by cases mi <;> cases al <;> cases ma <;> rfl
theorem or4 (mi al ma : Bool) : bits .or .i64 (ranI mi al ma) 4 = ranI mi al true := by cases mi <;> cases al <;> cases ma <;> rfl
theorem ran0 (mi al ma : Bool) : (ranI mi al ma = 0) ↔ (mi = false ∧ al = false ∧ ma = false) := by cases mi <;> cases al <;> cases ma <;> simp [ranI]

/-- What a step function answers. -/
def StepPost (g : Nat) (c : Nat → Int) (base limit words ran : Int) (cyc : Value) (r : Int × Ph) (w : World) (e : Ending) (w' : World) : Prop :=
  e = .returned (.int .i64 r.1) ∧ Bk w' g 100 (turnC c base limit words ran cyc (stepV r.2)) ∧ Fr [g] w w'

theorem last_any (g : Nat) (c : Nat → Int) (base limit words ran : Int) (cyc st : Value) (n : Int) (w : World) (hb : Bk w g 100 (turnC c base limit words ran cyc st)) :
    Calls Tryz.prog 67 #[.pointer (some ⟨g, 0, none⟩), .int .i64 n] w (StepPost g c base limit words ran cyc (n, .closing) w) := by
  have h19 : w.cell? ⟨g, 19, none⟩ = some st := hb.cell 19
  have hf := hb.free 19
  have HB := Lib.hid hb
  clear hb
  go_enter Tryz.func67, Tryz.ntmps67
  go_wp2
  go_ret
  exact ⟨rfl, HB.out.put 19 _, (Fr.refl _ _).setCell (by simp) _⟩

theorem guaranteed_any (v : Vw) (w : World) : Calls Tryz.prog 94 #[.agg #[.int .i64 v.eden, .int .i64 v.young, .int .i64 v.ten, .int .i64 v.room]] w fun e w' => e = .returned (.bool (decide (v.young ≤ v.room))) ∧ Fr [] w w' := by
  go_enter Tryz.func94, Tryz.ntmps94
  go_wp2
  go_ret
  exact ⟨rfl, (Fr.refl _ _).alloc _⟩

theorem closing_any (g : Nat) (c : Nat → Int) (base limit words : Int) (s : St) (cyc : Value) (v : Vw) (w : World) (hb : Bk w g 100 (turnC c base limit words (ranI s.mi s.al s.ma) cyc (stepV .closing))) :
    Calls Tryz.prog 68 #[.pointer (some ⟨g, 0, none⟩), .agg #[.int .i64 v.eden, .int .i64 v.young, .int .i64 v.ten, .int .i64 v.room]] w
      (StepPost g c base limit words (ranI s.mi s.al s.ma) cyc (closeStep limit s v) w) := by
  have h15 : w.cell? ⟨g, 15, none⟩ = some (.int .i64 limit) := hb.cell 15
  have h17 : w.cell? ⟨g, 17, none⟩ = some (.int .i64 (ranI s.mi s.al s.ma)) := hb.cell 17
  have h19 : w.cell? ⟨g, 19, none⟩ = some (stepV .closing) := hb.cell 19
  have hf := hb.free 19
  have hlt := hb.lt
  have HB := Lib.hid hb
  have h4 := and4 s.mi s.al s.ma
  clear hb
  by_cases h1 : limit < v.ten
  · cases hma : s.ma with
    | true =>
      have E : Hid (closeStep limit s v = (7, .fin)) := by simp [closeStep, hma, Hid]
      rw [hma] at h4 HB h17
      generalize ranI s.mi s.al true = ran at *
      go_enter Tryz.func68, Tryz.ntmps68
      go_wp2
      go_quiet (fail)
      go_wp2
      go_ret
      rw [E.out]
      first
        | exact ⟨rfl, (((HB.out.alloc _).put 19 _).drewN _), (((Fr.refl _ _).alloc _).setCell (by simp) _).drewN _⟩
        | exact ⟨rfl, (((HB.out.alloc _).drewN _).put 19 _), (((Fr.refl _ _).alloc _).drewN _).setCell (by simp) _⟩
    | false =>
      have E : Hid (closeStep limit s v = (5, .closing)) := by simp [closeStep, hma, h1, Hid]
      rw [hma] at h4 HB h17
      generalize ranI s.mi s.al false = ran at *
      go_enter Tryz.func68, Tryz.ntmps68
      go_wp2
      go_quiet (fail)
      go_wp2
      go_ret
      rw [E.out]
      exact ⟨rfl, ((HB.out.alloc _).drewN _), ((Fr.refl _ _).alloc _).drewN _⟩
  · have E : Hid (closeStep limit s v = (7, .fin)) := by simp [closeStep, h1, Hid]
    have hd : decide (limit < v.ten) = false := by simpa using h1
    go_enter Tryz.func68, Tryz.ntmps68
    go_wp2
    go_quiet (fail)
    go_wp2
    go_ret
    rw [E.out]
    first
      | exact ⟨rfl, (((HB.out.alloc _).put 19 _).drewN _), (((Fr.refl _ _).alloc _).setCell (by simp) _).drewN _⟩
      | exact ⟨rfl, (((HB.out.alloc _).drewN _).put 19 _), (((Fr.refl _ _).alloc _).drewN _).setCell (by simp) _⟩

/-- A turn that stands at its end. -/
theorem fin_any (g : Nat) (c : Nat → Int) (base limit words ran : Int) (cyc : Value) (v : Vw) (w : World) (hb : Bk w g 100 (turnC c base limit words ran cyc (stepV .fin))) :
    Calls Tryz.prog 95 #[.pointer (some ⟨g, 0, none⟩), .agg #[.int .i64 v.eden, .int .i64 v.young, .int .i64 v.ten, .int .i64 v.room]] w
      (StepPost g c base limit words ran cyc (7, .fin) w) := by
  have HB := Lib.hid hb
  clear hb
  go_enter Tryz.func95, Tryz.ntmps95
  go_wp2
  go_ret
  exact ⟨rfl, HB.out.alloc _, (Fr.refl _ _).alloc _⟩

theorem major_any (g : Nat) (c : Nat → Int) (base limit words ran : Int) (cyc st : Value) (v : Vw) (w : World) (hb : Bk w g 100 (turnC c base limit words ran cyc st)) :
    Calls Tryz.prog 66 #[.pointer (some ⟨g, 0, none⟩), .agg #[.int .i64 v.eden, .int .i64 v.young, .int .i64 v.ten, .int .i64 v.room]] w
      (StepPost g c base limit words ran cyc (5, .closing) w) := by
  have HB := Lib.hid hb
  clear hb
  go_enter Tryz.func66, Tryz.ntmps66
  go_wp2_with fail
  refine (last_any g c base limit words ran cyc st 5 _ (HB.out.alloc _)).mono ?_
  rintro e w1 ⟨rfl, hb, hf⟩
  have HB1 := Lib.hid hb
  have HF1 : Hid (Fr [g] w w1) := ((Fr.refl [g] w).alloc _).trans hf (by simp)
  clear hb hf
  go_wp2_with fail
  go_ret
  exact ⟨rfl, HB1.out, HF1.out⟩

def forcedStep (n : Int) (ph : Ph) (limit : Int) (s : St) (v : Vw) : Int × Ph :=
  if v.young ≤ v.room then (n, .closing) else if s.ma = false then (5, ph) else closeStep limit s v

theorem forced_any (g : Nat) (c : Nat → Int) (base limit words : Int) (s : St) (ph : Ph) (n : Int) (cyc : Value) (v : Vw) (w : World)
    (hb : Bk w g 100 (turnC c base limit words (ranI s.mi s.al s.ma) cyc (stepV ph))) :
    Calls Tryz.prog 64 #[.pointer (some ⟨g, 0, none⟩), .agg #[.int .i64 v.eden, .int .i64 v.young, .int .i64 v.ten, .int .i64 v.room], .int .i64 n] w
      (StepPost g c base limit words (ranI s.mi s.al s.ma) cyc (forcedStep n ph limit s v) w) := by
  have HB := Lib.hid hb
  have h4 := and4 s.mi s.al s.ma
  clear hb
  by_cases h1 : v.young ≤ v.room
  · have E : Hid (forcedStep n ph limit s v = (n, .closing)) := by simp [forcedStep, h1, Hid]
    go_enter Tryz.func64, Tryz.ntmps64
    go_wp2_with fail
    refine (guaranteed_any v _).mono ?_
    rintro e w1 ⟨rfl, hf⟩
    have HB1 := Lib.hid ((HB.out.alloc _).fr hf (by simp))
    have HF1 : Hid (Fr [g] w w1) := ((Fr.refl [g] w).alloc _).trans hf (by simp)
    clear hf
    go_wp2_with fail
    refine (last_any g c base limit words _ cyc _ n _ HB1.out).mono ?_
    rintro e w2 ⟨rfl, hb, hf⟩
    have HB2 := Lib.hid hb
    have HF2 := Lib.hid (HF1.out.trans hf (by simp))
    clear hb hf
    go_wp2_with fail
    go_ret
    rw [E.out]
    exact ⟨rfl, HB2.out, HF2.out⟩
  · have hd : decide (v.young ≤ v.room) = false := by simpa using h1
    cases hma : s.ma with
    | true =>
      have E : Hid (forcedStep n ph limit s v = closeStep limit s v) := by simp [forcedStep, h1, hma, Hid]
      have e4 : bits .and .i64 (ranI s.mi s.al s.ma) 4 = 4 := by rw [h4, hma]; rfl
      rw [← hma] at *
      clear h4 hma
      go_enter Tryz.func64, Tryz.ntmps64
      go_wp2_with fail
      refine (guaranteed_any v _).mono ?_
      rintro e w1 ⟨rfl, hf⟩
      have HV : Hid (w1.cell? ⟨w.heap.size, 0, none⟩ = some (.int .i64 v.eden) ∧ w1.cell? ⟨w.heap.size, 1, none⟩ = some (.int .i64 v.young) ∧ w1.cell? ⟨w.heap.size, 2, none⟩ = some (.int .i64 v.ten) ∧ w1.cell? ⟨w.heap.size, 3, none⟩ = some (.int .i64 v.room)) :=
        ⟨((Bk.new w _ _).fr hf (by simp)).cell 0, ((Bk.new w _ _).fr hf (by simp)).cell 1, ((Bk.new w _ _).fr hf (by simp)).cell 2, ((Bk.new w _ _).fr hf (by simp)).cell 3⟩
      have HB1 := Lib.hid ((HB.out.alloc _).fr hf (by simp))
      have HF1 : Hid (Fr [g] w w1) := ((Fr.refl [g] w).alloc _).trans hf (by simp)
      have hne : g ≠ w.heap.size := Nat.ne_of_lt HB.out.lt
      have h17 : w1.cell? ⟨g, 17, none⟩ = some (.int .i64 (ranI s.mi s.al s.ma)) := HB1.out.cell 17
      have h19 : w1.cell? ⟨g, 19, none⟩ = some (stepV ph) := HB1.out.cell 19
      have hfz := HB1.out.free 19
      obtain ⟨v0, v1, v2, v3⟩ := HV.out
      clear hf
      go_wp2_with fail
      refine (closing_any g c base limit words s cyc v _ (HB1.out.put 19 _)).mono ?_
      rintro e w2 ⟨rfl, hb, hf⟩
      have HB2 := Lib.hid hb
      have HF2 := Lib.hid ((HF1.out.setCell (p := ⟨g, 19, none⟩) (by simp) _).trans hf (by simp))
      clear hb hf h17 h19 hfz v0 v1 v2 v3
      generalize closeStep limit s v = r at *
      go_wp2_with fail
      go_ret
      rw [E.out]
      exact ⟨rfl, HB2.out, HF2.out⟩
    | false =>
      have E : Hid (forcedStep n ph limit s v = (5, ph)) := by simp [forcedStep, h1, hma, Hid]
      have e4 : bits .and .i64 (ranI s.mi s.al s.ma) 4 = 0 := by rw [h4, hma]; rfl
      rw [← hma] at *
      clear h4 hma
      go_enter Tryz.func64, Tryz.ntmps64
      go_wp2_with fail
      refine (guaranteed_any v _).mono ?_
      rintro e w1 ⟨rfl, hf⟩
      have HB1 := Lib.hid ((HB.out.alloc _).fr hf (by simp))
      have HF1 : Hid (Fr [g] w w1) := ((Fr.refl [g] w).alloc _).trans hf (by simp)
      have h17 : w1.cell? ⟨g, 17, none⟩ = some (.int .i64 (ranI s.mi s.al s.ma)) := HB1.out.cell 17
      clear hf
      go_wp2_with fail
      go_ret
      rw [E.out]
      exact ⟨rfl, HB1.out, HF1.out⟩

theorem minor_any (g : Nat) (c : Nat → Int) (base limit words : Int) (s : St) (cyc : Value) (v : Vw) (w : World)
    (hb : Bk w g 100 (turnC c base limit words (ranI s.mi s.al s.ma) cyc (stepV .minor))) :
    Calls Tryz.prog 63 #[.pointer (some ⟨g, 0, none⟩), .agg #[.int .i64 v.eden, .int .i64 v.young, .int .i64 v.ten, .int .i64 v.room]] w
      (StepPost g c base limit words (ranI s.mi s.al s.ma) cyc (forcedStep 3 .minor limit s v) w) := by
  have HB := Lib.hid hb
  clear hb
  go_enter Tryz.func63, Tryz.ntmps63
  go_wp2_with fail
  refine (forced_any g c base limit words s .minor 3 cyc v _ (HB.out.alloc _)).mono ?_
  rintro e w1 ⟨rfl, hb, hf⟩
  have HB1 := Lib.hid hb
  have HF1 : Hid (Fr [g] w w1) := ((Fr.refl [g] w).alloc _).trans hf (by simp)
  clear hb hf
  generalize forcedStep 3 .minor limit s v = r at *
  go_wp2_with fail
  go_ret
  exact ⟨rfl, HB1.out, HF1.out⟩

theorem all_any (g : Nat) (c : Nat → Int) (base limit words : Int) (s : St) (cyc : Value) (v : Vw) (w : World)
    (hb : Bk w g 100 (turnC c base limit words (ranI s.mi s.al s.ma) cyc (stepV .all))) :
    Calls Tryz.prog 65 #[.pointer (some ⟨g, 0, none⟩), .agg #[.int .i64 v.eden, .int .i64 v.young, .int .i64 v.ten, .int .i64 v.room]] w
      (StepPost g c base limit words (ranI s.mi s.al s.ma) cyc (forcedStep 4 .all limit s v) w) := by
  have HB := Lib.hid hb
  clear hb
  go_enter Tryz.func65, Tryz.ntmps65
  go_wp2_with fail
  refine (forced_any g c base limit words s .all 4 cyc v _ (HB.out.alloc _)).mono ?_
  rintro e w1 ⟨rfl, hb, hf⟩
  have HB1 := Lib.hid hb
  have HF1 : Hid (Fr [g] w w1) := ((Fr.refl [g] w).alloc _).trans hf (by simp)
  clear hb hf
  generalize forcedStep 4 .all limit s v = r at *
  go_wp2_with fail
  go_ret
  exact ⟨rfl, HB1.out, HF1.out⟩
end Go.Proofs.YtdcppdgnekhcgaaGreatDoor
