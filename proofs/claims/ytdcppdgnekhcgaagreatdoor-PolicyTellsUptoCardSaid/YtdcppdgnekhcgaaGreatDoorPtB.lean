/-
  Policy: Base, of the program's turn and of the document's.
-/
import Derived.Test.YtdcppdgnekhcgaaGreatDoorPol13
namespace Go.Proofs.YtdcppdgnekhcgaaGreatDoor
open Go.RowKit Pol
set_option maxRecDepth 100000
set_option linter.unusedVariables false

/-- The base behind the operation. -/
def baseOf (s : St) (base : Int) (v : Vw) : Int := if s.ma then clip v.ten else base

theorem base_any (g : Nat) (c : Nat → Int) (base limit words : Int) (s : St) (l : List Int) (cyc : Value) (v : Vw) (w : World) (hP : PT w g c base limit words s l cyc) :
    Calls Tryz.prog 26 #[.pointer (some ⟨g, 0, none⟩), .agg #[.int .i64 v.eden, .int .i64 v.young, .int .i64 v.ten, .int .i64 v.room]] w fun e w' => e = .returned (.int .i64 (baseOf s base v)) ∧ Fr [] w w' := by
  have hb := hP.B
  have hlt := hb.lt
  have h17 : w.cell? ⟨g, 17, none⟩ = some (.int .i64 (ranI s.mi s.al s.ma)) := hb.cell 17
  have h14 : w.cell? ⟨g, 14, none⟩ = some (.int .i64 base) := hb.cell 14
  have h4 := and4 s.mi s.al s.ma
  clear hb hP
  have hF : Hid (Fr [] w (w.alloc (.cells #[.int .i64 v.eden, .int .i64 v.young, .int .i64 v.ten, .int .i64 v.room] 67))) := (Fr.refl _ _).alloc _
  cases hma : s.ma with
  | true =>
    rw [hma] at h4 h17
    have e4 : bits .and .i64 (ranI s.mi s.al true) 4 = 4 := h4
    clear h4
    generalize ranI s.mi s.al true = ran at *
    have hbo : baseOf s base v = clip v.ten := by simp [baseOf, hma]
    rw [hbo]
    by_cases hneg : v.ten < 0
    · have hc : clip v.ten = 0 := by simp [clip, hneg]
      rw [hc]
      go_enter Tryz.func26, Tryz.ntmps26
      go_wp2
      go_ret
      exact ⟨by first | rfl | simp_all | (simp; omega), hF.out⟩
    · have hc : clip v.ten = v.ten := by simp [clip, hneg]
      rw [hc]
      go_enter Tryz.func26, Tryz.ntmps26
      go_wp2
      go_ret
      exact ⟨by first | rfl | simp_all | (simp; omega), hF.out⟩
  | false =>
    rw [hma] at h4 h17
    have e4 : bits .and .i64 (ranI s.mi s.al false) 4 = 0 := h4
    clear h4
    generalize ranI s.mi s.al false = ran at *
    have hbo : baseOf s base v = base := by simp [baseOf, hma]
    rw [hbo]
    go_enter Tryz.func26, Tryz.ntmps26
    go_wp2
    go_ret
    exact ⟨rfl, hF.out⟩

theorem rbase_any (g : Nat) (c : Nat → Int) (kind words first most : Int) (s : St) (l : List Int) (cl ov : Bool) (rv : Value) (v : Vw) (w : World) (T : RT w g c kind words first most s l cl ov rv) :
    Calls Tryz.prog 27 #[.pointer (some ⟨g, 0, none⟩), .agg #[.int .i64 v.eden, .int .i64 v.young, .int .i64 v.ten, .int .i64 v.room]] w fun e w' => e = .returned (.int .i64 (baseOf s first v)) ∧ Fr [] w w' := by
  obtain ⟨w1, hw1⟩ : ∃ w1, w1 = w.alloc (.cells #[.int .i64 v.eden, .int .i64 v.young, .int .i64 v.ten, .int .i64 v.room] 67) := ⟨_, rfl⟩
  have hF : Hid (Fr [] w w1) := by rw [hw1]; exact (Fr.refl _ _).alloc _
  have HT : Hid (RT w1 g c kind words first most s l cl ov rv) := (RT.ob ..).fr T hF.out (by simp [Dis])
  have HV : Hid (Bk w1 w.heap.size 67 #[.int .i64 v.eden, .int .i64 v.young, .int .i64 v.ten, .int .i64 v.room]) := by rw [hw1]; exact Bk.new _ _ _
  have v2 : w1.cell? ⟨w.heap.size, 2, none⟩ = some (.int .i64 v.ten) := HV.out.cell 2
  have h16 : w1.cell? ⟨g, 16, none⟩ = some (.int .i64 first) := HT.out.R.B.cell 16
  have HM := Lib.hid (ma_is T.ok rfl)
  have hl := Lib.hid T.ok.len3
  have HW := Lib.hid hw1
  clear T hw1
  cases hma : s.ma with
  | true =>
    have hbo : baseOf s first v = clip v.ten := by simp [baseOf, hma]
    rw [hbo]
    rw [hma] at HM
    go_enter Tryz.func27, Tryz.ntmps27
    go_upto_region 1 with fail
    rw [← HW.out]
    go_wp2_with fail
    refine (ran_is HM.out HT.out.R hl.out).mono ?_
    rintro e w2 ⟨rfl, rfl⟩
    go_wp2_with fail
    refine (above_any _ _).mono ?_
    rintro e w2 ⟨rfl, rfl⟩
    go_wp2_with fail
    go_ret
    exact ⟨rfl, hF.out⟩
  | false =>
    have hbo : baseOf s first v = first := by simp [baseOf, hma]
    rw [hbo]
    rw [hma] at HM
    go_enter Tryz.func27, Tryz.ntmps27
    go_upto_region 1 with fail
    rw [← HW.out]
    go_wp2_with fail
    refine (ran_is HM.out HT.out.R hl.out).mono ?_
    rintro e w2 ⟨rfl, rfl⟩
    go_wp2_with fail
    go_ret
    exact ⟨rfl, hF.out⟩
end Go.Proofs.YtdcppdgnekhcgaaGreatDoor
