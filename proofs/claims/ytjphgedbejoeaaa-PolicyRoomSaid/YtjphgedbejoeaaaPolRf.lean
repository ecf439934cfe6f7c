/-
  A memory in numbers: how it begins; the turn's base.
-/
import Derived.Test.YtjphgedbejoeaaaPolRm
import Derived.Test.YtjphgedbejoeaaaPol13
import Derived.Deep.MidRow
namespace Go.Proofs.Ytjphgedbejoeaaa
open Go.RowKit Pol
set_option linter.unusedVariables false

def mn (a b : Int) : Int := if b < a then b else a
def fixW (E T yl yd tl td : Int) : Wd := ⟨mn (clip yl) E, mn (clip yd) (E - mn (clip yl) E), 0, 0, mn (clip tl) T, mn (clip td) (T - mn (clip tl) T)⟩
theorem clip_nn (n : Int) : 0 ≤ clip n := by unfold clip; split <;> omega
theorem mn_bd {a b : Int} (ha : 0 ≤ a) (hb : 0 ≤ b) : 0 ≤ mn a b ∧ mn a b ≤ b := by unfold mn; split <;> omega
theorem fix_ok {E T : Int} (yl yd tl td : Int) (hE : 0 ≤ E) (hT : 0 ≤ T) : WOk E T (fixW E T yl yd tl td) := by
  have h1 := mn_bd (clip_nn yl) hE
  have h2 := mn_bd (clip_nn yd) (show 0 ≤ E - mn (clip yl) E by omega)
  have h3 := mn_bd (clip_nn tl) hT
  have h4 := mn_bd (clip_nn td) (show 0 ≤ T - mn (clip tl) T by omega)
  constructor <;> simp only [fixW] <;> omega

theorem mem_range {w : World} {a : Nat} {c : Nat → Int} {yl yd tl td base words sv pr : Int} (h : Bk w a 49 (memA c yl yd tl td base words sv pr)) : w.rangeAt a 0 (cfgA c).toList := by
  intro i v hi
  have hlt : i < 14 := by
    have := (List.getElem?_eq_some_iff.1 hi).1
    have h14 : (cfgA c).toList.length = 14 := rfl
    omega
  rw [Nat.zero_add, h.cell i, ← hi]
  match i, hlt with
  | 0, _ | 1, _ | 2, _ | 3, _ | 4, _ | 5, _ | 6, _ | 7, _ | 8, _ | 9, _ | 10, _ | 11, _ | 12, _ | 13, _ => rfl

set_option maxHeartbeats 800000 in
theorem fix_any (c : Nat → Int) (yl yd tl td base words sv pr : Int) (w : World) (he : 0 ≤ c 0 ∧ c 0 ≤ 65536) (ht : 0 ≤ c 2 ∧ c 2 ≤ 65536) :
    Calls Try.prog 20 #[.agg (memA c yl yd tl td base words sv pr)] w fun e w' =>
      ∃ g, e = .returned (.pointer (some ⟨g, 0, none⟩)) ∧ w.heap.size ≤ g ∧ Bk w' g 53 (worldA c (fixW (c 0) (c 2) yl yd tl td)) ∧ Fr [] w w' := by
  obtain ⟨e0, e1⟩ := he
  obtain ⟨t0, t1⟩ := ht
  have HM := Lib.hid (Bk.new w 49 (memA c yl yd tl td base words sv pr))
  have HF := Lib.hid ((Fr.refl [] w).alloc (.cells (memA c yl yd tl td base words sv pr) 49))
  go_enter Try.func20, Try.ntmps20
  go_upto_region 1 with fail
  change Code.wp _ _ _ _ (w.alloc (.cells (memA c yl yd tl td base words sv pr) 49))
  have hz : w.heap.size < (w.alloc (.cells (memA c yl yd tl td base words sv pr) 49)).heap.size := by simp
  generalize w.alloc (.cells (memA c yl yd tl td base words sv pr) 49) = w1 at *
  have hz2 : w1.heap.size < (w1.alloc (.cells (worldA c ⟨0, 0, 0, 0, 0, 0⟩) 53)).heap.size := by simp
  have HW2 := Lib.hid (Bk.new w1 53 (worldA c ⟨0, 0, 0, 0, 0, 0⟩))
  have HM2 := Lib.hid (HM.out.alloc (.cells (worldA c ⟨0, 0, 0, 0, 0, 0⟩) 53))
  have HF2 := Lib.hid (HF.out.alloc (.cells (worldA c ⟨0, 0, 0, 0, 0, 0⟩) 53))
  have HR := Lib.hid (mem_range HM.out)
  have HG : Hid (w.heap.size ≤ w1.heap.size) := HF.out.size
  have hne : w.heap.size ≠ w1.heap.size := by omega
  clear HM HF hz hz2
  go_upto_region 2 with (refine wpList_load_mid rfl 23 _ rfl w.heap.size 0 rfl [.int .i64 (c 0), .int .i64 (c 1), .int .i64 (c 2), .int .i64 (c 3), .int .i64 (c 4), .int .i64 (c 5), .int .i64 (c 6), .int .i64 (c 7), .int .i64 (c 8), .int .i64 (c 9), .int .i64 (c 10), .int .i64 (c 11), .int .i64 (c 12), .int .i64 (c 13)] _ HR.out Try.underlying23 rfl (by kernel_rfl) ?_)
  change Code.wp _ _ _ _ (w1.alloc (.cells (worldA c ⟨0, 0, 0, 0, 0, 0⟩) 53))
  generalize hgW : w1.heap.size = gW at *
  generalize w1.alloc (.cells (worldA c ⟨0, 0, 0, 0, 0, 0⟩) 53) = w2 at *
  clear hgW HR
  have hlM := HM2.out.lt
  have hlW := HW2.out.lt
  have c0 : w2.cell? ⟨w.heap.size, 0, none⟩ = some (.int .i64 (c 0)) := HM2.out.cell 0
  have c2 : w2.cell? ⟨w.heap.size, 2, none⟩ = some (.int .i64 (c 2)) := HM2.out.cell 2
  have m14 : w2.cell? ⟨w.heap.size, 14, none⟩ = some (.int .i64 yl) := HM2.out.cell 14
  have m15 : w2.cell? ⟨w.heap.size, 15, none⟩ = some (.int .i64 yd) := HM2.out.cell 15
  have m16 : w2.cell? ⟨w.heap.size, 16, none⟩ = some (.int .i64 tl) := HM2.out.cell 16
  have m17 : w2.cell? ⟨w.heap.size, 17, none⟩ = some (.int .i64 td) := HM2.out.cell 17
  have k14 : w2.cell? ⟨gW, 14, none⟩ = some (.int .i64 0) := HW2.out.cell 14
  have k15 : w2.cell? ⟨gW, 15, none⟩ = some (.int .i64 0) := HW2.out.cell 15
  have k18 : w2.cell? ⟨gW, 18, none⟩ = some (.int .i64 0) := HW2.out.cell 18
  have k19 : w2.cell? ⟨gW, 19, none⟩ = some (.int .i64 0) := HW2.out.cell 19
  have fW := HW2.out.free
  go_upto_region 4 with fail
  obtain ⟨a, ha⟩ : ∃ a, (if c 0 < if yl < 0 then 0 else yl then c 0 else if yl < 0 then 0 else yl) = a := ⟨_, rfl⟩
  have ha' : mn (clip yl) (c 0) = a := by unfold mn clip; exact ha
  have hab := mn_bd (clip_nn yl) e0
  rw [ha'] at hab
  rw [ha]
  have HA := Lib.hid ha'
  clear ha ha'
  obtain ⟨w3, hw3⟩ : ∃ w3, w3 = (w2.setCell ⟨gW, 14, none⟩ (.int .i64 a)).drew := ⟨_, rfl⟩
  have HW3 : Hid (Bk w3 gW 53 (worldA c ⟨a, 0, 0, 0, 0, 0⟩)) := by subst hw3; exact (HW2.out.put 14 _).drew
  have HM3 : Hid (Bk w3 w.heap.size 49 (memA c yl yd tl td base words sv pr)) := by subst hw3; exact (HM2.out.far (by exact hne) _).drew
  have HF3 : Hid (Fr [] w w3) := by subst hw3; exact (HF2.out.setCell (by simp; exact HG.out) _).drew
  have HE3 := Lib.hid hw3
  clear hw3 c0 c2 m14 m15 m16 m17 k14 k15 k18 k19 fW hlM hlW HW2 HM2 HF2
  have m15 : w3.cell? ⟨w.heap.size, 15, none⟩ = some (.int .i64 yd) := HM3.out.cell 15
  have k14 : w3.cell? ⟨gW, 14, none⟩ = some (.int .i64 a) := HW3.out.cell 14
  have k15 : w3.cell? ⟨gW, 15, none⟩ = some (.int .i64 0) := HW3.out.cell 15
  have fW := HW3.out.free
  have s0 : IntKind.i64.wrap (c 0 - a) = c 0 - a := IntWalk.i64_in _ (by omega)
  refine wp_region_still_tail 13 (by kernel_rfl) (by kernel_rfl) ?_
  change wpStill _ _ (w2.setCell ⟨gW, 14, none⟩ (.int .i64 a)).drew _ _ _
  rw [← HE3.out]
  simp only [List.take_succ_cons, List.take_zero, List.drop_succ_cons, List.drop_zero]
  repeat still_step
  refine wpStill_nil ?_
  change wpList _ _ _ _ _ (w2.setCell ⟨gW, 14, none⟩ (.int .i64 a)).drew
  rw [← HE3.out]
  clear s0 HE3
  go_upto_region 5 with fail
  obtain ⟨b, hb⟩ : ∃ b, (if c 0 - a < if yd < 0 then 0 else yd then c 0 - a else if yd < 0 then 0 else yd) = b := ⟨_, rfl⟩
  have hb' : mn (clip yd) (c 0 - a) = b := by unfold mn clip; exact hb
  rw [hb]
  have HB := Lib.hid hb'
  clear hb hb'
  obtain ⟨w4, hw4⟩ : ∃ w4, w4 = w3.setCell ⟨gW, 15, none⟩ (.int .i64 b) := ⟨_, rfl⟩
  have HW4 : Hid (Bk w4 gW 53 (worldA c ⟨a, b, 0, 0, 0, 0⟩)) := by subst hw4; exact HW3.out.put 15 _
  have HM4 : Hid (Bk w4 w.heap.size 49 (memA c yl yd tl td base words sv pr)) := by subst hw4; exact HM3.out.far (by exact hne) _
  have HF4 : Hid (Fr [] w w4) := by subst hw4; exact HF3.out.setCell (by simp; exact HG.out) _
  rw [← hw4]
  clear hw4 m15 k14 k15 fW HW3 HM3 HF3
  have c2 : w4.cell? ⟨w.heap.size, 2, none⟩ = some (.int .i64 (c 2)) := HM4.out.cell 2
  have m16 : w4.cell? ⟨w.heap.size, 16, none⟩ = some (.int .i64 tl) := HM4.out.cell 16
  have k18 : w4.cell? ⟨gW, 18, none⟩ = some (.int .i64 0) := HW4.out.cell 18
  have fW := HW4.out.free
  go_upto_region 6 with fail
  obtain ⟨d, hd⟩ : ∃ d, (if c 2 < if tl < 0 then 0 else tl then c 2 else if tl < 0 then 0 else tl) = d := ⟨_, rfl⟩
  have hd' : mn (clip tl) (c 2) = d := by unfold mn clip; exact hd
  have hdb := mn_bd (clip_nn tl) t0
  rw [hd'] at hdb
  rw [hd]
  have HD := Lib.hid hd'
  clear hd hd'
  obtain ⟨w5, hw5⟩ : ∃ w5, w5 = (w4.setCell ⟨gW, 18, none⟩ (.int .i64 d)).drew := ⟨_, rfl⟩
  have HW5 : Hid (Bk w5 gW 53 (worldA c ⟨a, b, 0, 0, d, 0⟩)) := by subst hw5; exact (HW4.out.put 18 _).drew
  have HM5 : Hid (Bk w5 w.heap.size 49 (memA c yl yd tl td base words sv pr)) := by subst hw5; exact (HM4.out.far (by exact hne) _).drew
  have HF5 : Hid (Fr [] w w5) := by subst hw5; exact (HF4.out.setCell (by simp; exact HG.out) _).drew
  have HE5 := Lib.hid hw5
  clear hw5 c2 m16 k18 fW HW4 HM4 HF4
  have c2 : w5.cell? ⟨w.heap.size, 2, none⟩ = some (.int .i64 (c 2)) := HM5.out.cell 2
  have m17 : w5.cell? ⟨w.heap.size, 17, none⟩ = some (.int .i64 td) := HM5.out.cell 17
  have k18 : w5.cell? ⟨gW, 18, none⟩ = some (.int .i64 d) := HW5.out.cell 18
  have k19 : w5.cell? ⟨gW, 19, none⟩ = some (.int .i64 0) := HW5.out.cell 19
  have fW := HW5.out.free
  have s0 : IntKind.i64.wrap (c 2 - d) = c 2 - d := IntWalk.i64_in _ (by omega)
  refine wp_region_still_tail 15 (by kernel_rfl) (by kernel_rfl) ?_
  change wpStill _ _ (w4.setCell ⟨gW, 18, none⟩ (.int .i64 d)).drew _ _ _
  rw [← HE5.out]
  simp only [List.take_succ_cons, List.take_zero, List.drop_succ_cons, List.drop_zero]
  repeat still_step
  refine wpStill_nil ?_
  change wpList _ _ _ _ _ (w4.setCell ⟨gW, 18, none⟩ (.int .i64 d)).drew
  rw [← HE5.out]
  clear s0 HE5
  go_upto_region 7 with fail
  obtain ⟨f, hf⟩ : ∃ f, (if c 2 - d < if td < 0 then 0 else td then c 2 - d else if td < 0 then 0 else td) = f := ⟨_, rfl⟩
  have hf' : mn (clip td) (c 2 - d) = f := by unfold mn clip; exact hf
  rw [hf]
  have HX : Hid (fixW (c 0) (c 2) yl yd tl td = ⟨a, b, 0, 0, d, f⟩) := by
    show fixW (c 0) (c 2) yl yd tl td = ⟨a, b, 0, 0, d, f⟩
    unfold fixW
    rw [HA.out, HB.out, HD.out, hf']
  clear hf hf'
  go_wp2_with fail
  all_goals go_ret
  all_goals exact ⟨gW, rfl, HG.out, by rw [HX.out]; exact HW5.out.put 19 _, HF5.out.setCell (by simp; exact HG.out) _⟩

def baseAt (base : Int) (s : St) (v : Vw) : Int := if s.ma then clip v.ten else base
theorem base_any (g : Nat) (c : Nat → Int) (base limit words : Int) (s : St) (l : List Int) (cyc : Value) (v : Vw) (w : World) (hP : PT w g c base limit words s l cyc) :
    Calls Try.prog 23 #[.pointer (some ⟨g, 0, none⟩), .agg #[.int .i64 v.eden, .int .i64 v.young, .int .i64 v.ten, .int .i64 v.room]] w fun e w' => e = .returned (.int .i64 (baseAt base s v)) ∧ Fr [] w w' := by
  have h14 : w.cell? ⟨g, 14, none⟩ = some (.int .i64 base) := hP.B.cell 14
  have h17 : w.cell? ⟨g, 17, none⟩ = some (.int .i64 (ranI s.mi s.al s.ma)) := hP.B.cell 17
  have hlt := hP.B.lt
  have h4 := and4 s.mi s.al s.ma
  have HP := Lib.hid hP
  clear hP
  unfold baseAt
  cases hm : s.ma with
  | true =>
    rw [hm] at h4 h17
    have HM := Lib.hid hm
    clear hm
    generalize ranI s.mi s.al true = ran at *
    simp only [if_true] at h4 ⊢
    go_enter Try.func23, Try.ntmps23
    go_wp2
    all_goals
      go_ret
      refine ⟨?_, (Fr.refl _ _).alloc _⟩
      refine ret_int ?_
      unfold clip
      split <;> omega
  | false =>
    rw [hm] at h4 h17
    have HM := Lib.hid hm
    clear hm
    generalize ranI s.mi s.al false = ran at *
    simp only [Bool.false_eq_true, if_false] at h4 ⊢
    go_enter Try.func23, Try.ntmps23
    go_wp2
    go_ret
    exact ⟨rfl, (Fr.refl _ _).alloc _⟩


/-! The limit's law: behind a major cycle it is not below what is held. -/
theorem limit_up {c : Nat → Int} (hv : validB c = true) {b : Int} (h0 : 0 ≤ b) (h1 : b ≤ 65536) : b ≤ limitOf c b := by
  have o := okC hv
  have e6 := o.e6
  have e5 := o.e5
  unfold limitOf
  rw [if_pos hv]
  have hc : clampB b = b := by unfold clampB; split <;> (try split) <;> omega
  rw [hc]
  have hd : b ≤ b * c 5 / c 6 := by
    apply (Int.le_ediv_iff_mul_le (by omega)).2
    exact Int.mul_le_mul_of_nonneg_left (by omega) h0
  split <;> omega
end Go.Proofs.Ytjphgedbejoeaaa
