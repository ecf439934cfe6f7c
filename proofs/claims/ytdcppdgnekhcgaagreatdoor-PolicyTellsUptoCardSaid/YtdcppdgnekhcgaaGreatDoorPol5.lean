/-
  Limit and Big of both.
-/
import Derived.Test.YtdcppdgnekhcgaaGreatDoorPol1
import Derived.IntWalk
import Derived.Laws.Small
namespace Go.Proofs.YtdcppdgnekhcgaaGreatDoor
open Go.RowKit Pol
set_option maxRecDepth 100000

def clampB (base : Int) : Int := if base < 0 then 0 else if 65536 < base then 65536 else base
def limitOf (c : Nat → Int) (base : Int) : Int := if validB c then (if clampB base * c 5 / c 6 < c 4 then c 4 else clampB base * c 5 / c 6) else 0
def bigB (c : Nat → Int) (words : Int) : Bool := decide (c 3 ≤ words) || decide (c 0 < words)

structure OkC (c : Nat → Int) : Prop where
  e0 : 64 ≤ c 0 ∧ c 0 ≤ 65536
  e1 : 64 ≤ c 1 ∧ c 1 ≤ 65536
  e2 : 64 ≤ c 2 ∧ c 2 ≤ 65536
  e3 : 2 ≤ c 3 ∧ c 3 ≤ 65536
  e4 : 0 ≤ c 4 ∧ c 4 ≤ 65536
  e6 : 1 ≤ c 6
  e5 : c 6 ≤ c 5 ∧ c 5 ≤ 65536
theorem okC {c : Nat → Int} (h : validB c = true) : OkC c := by
  simp only [validB, grp0, grp1, grp2, grp3, inB, Bool.and_eq_true, decide_eq_true_eq] at h
  obtain ⟨⟨⟨⟨⟨⟨⟨h0, h1⟩, h2⟩, ⟨⟨h3, h4⟩, h5⟩, h6⟩, _⟩, _⟩, _⟩, _⟩ := h
  constructor <;> omega
theorem clampB_bound (base : Int) : 0 ≤ clampB base ∧ clampB base ≤ 65536 := by
  unfold clampB
  repeat' split
  all_goals omega
theorem mul_bound {x y : Int} (h1 : 0 ≤ x) (h2 : x ≤ 65536) (h3 : 0 ≤ y) (h4 : y ≤ 65536) : 0 ≤ x * y ∧ x * y ≤ 4294967296 :=
  ⟨Int.mul_nonneg h1 h3, Int.le_trans (Int.mul_le_mul_of_nonneg_left h4 h1) (by omega)⟩
theorem div_bound {x y : Int} (h1 : 0 ≤ x) (h3 : 1 ≤ y) : 0 ≤ x / y ∧ x / y ≤ x :=
  ⟨Int.ediv_nonneg h1 (by omega), Int.ediv_le_self _ h1⟩
theorem limitOf_bound (c : Nat → Int) (base : Int) : 0 ≤ limitOf c base ∧ limitOf c base ≤ 4294967296 := by
  unfold limitOf
  split
  · rename_i h
    have o := okC h
    have hb := clampB_bound base
    have hm := mul_bound hb.1 hb.2 (show 0 ≤ c 5 by have := o.e5; have := o.e6; omega) o.e5.2
    have hd := div_bound hm.1 o.e6
    have := o.e4
    split <;> omega
  · omega

theorem valid_is {c : Nat → Int} {b : Bool} (h : validB c = b) (w : World) : Calls Tryz.prog 59 #[.agg (cfgA c)] w fun e w' => e = .returned (.bool b) ∧ Fr [] w w' :=
  (valid_any c w).mono fun e w' ⟨he, hf⟩ => ⟨by rw [he, h], hf⟩

theorem rvalid_is {c : Nat → Int} {b : Bool} (h : validB c = b) (w : World) : Calls Tryz.prog 69 #[.agg (cfgA c)] w fun e w' => e = .returned (.bool b) ∧ Fr [] w w' :=
  (rvalid_any c w).mono fun e w' ⟨he, hf⟩ => ⟨by rw [he, h], hf⟩

theorem ret_int {k : IntKind} {a b : Int} (h : a = b) : Ending.returned (.int k a) = .returned (.int k b) := by rw [h]

theorem limit_no (c : Nat → Int) (base : Int) (w : World) (h : validB c = false) :
    Calls Tryz.prog 23 #[.agg (cfgA c), .int .i64 base] w fun e w' => e = .returned (.int .i64 (limitOf c base)) ∧ Fr [] w w' := by
  have hl : limitOf c base = 0 := by unfold limitOf; rw [h]; rfl
  rw [hl]
  have H := Lib.hid h
  clear h hl
  go_enter Tryz.func23, Tryz.ntmps23
  go_wp2_with (refine wpList_load_row rfl 23 _ rfl w.heap.size rfl 23 (cfgA c) (0, 0) _ (heap_alloc_new w _) Tryz.underlying23 rfl (by kernel_rfl) ?_)
  refine (valid_is H.out _).mono ?_
  rintro e w1 ⟨rfl, hf⟩
  have HF : Hid (Fr [] w w1) := ((Fr.refl [] w).alloc _).trans hf (by simp)
  clear hf
  go_wp2_with fail
  go_ret
  exact ⟨rfl, HF.out⟩

theorem limit_yes (c : Nat → Int) (base : Int) (w : World) (h : validB c = true) :
    Calls Tryz.prog 23 #[.agg (cfgA c), .int .i64 base] w fun e w' => e = .returned (.int .i64 (limitOf c base)) ∧ Fr [] w w' := by
  have o := okC h
  have hb := clampB_bound base
  have hm := mul_bound hb.1 hb.2 (show 0 ≤ c 5 by have := o.e5; have := o.e6; omega) o.e5.2
  have hd := div_bound hm.1 o.e6
  have h4 := o.e4
  have h6 := o.e6
  have hl : limitOf c base = if clampB base * c 5 / c 6 < c 4 then c 4 else clampB base * c 5 / c 6 := by unfold limitOf; rw [h]; rfl
  have H := Lib.hid h
  have HL := Lib.hid hl
  clear h hl o
  have hcl : ∃ b0, clampB base = b0 ∧ ((base < 0 ∧ b0 = 0) ∨ (65536 < base ∧ b0 = 65536) ∨ (0 ≤ base ∧ base ≤ 65536 ∧ b0 = base)) := by
    refine ⟨_, rfl, ?_⟩
    unfold clampB
    repeat' split
    all_goals omega
  obtain ⟨b0, hb0, hcase⟩ := hcl
  rw [hb0] at hb hm hd
  have HB0 := Lib.hid hb0
  clear hb0
  go_enter Tryz.func23, Tryz.ntmps23
  go_wp2_with (refine wpList_load_row rfl 23 _ rfl w.heap.size rfl 23 (cfgA c) (0, 0) _ (heap_alloc_new w _) Tryz.underlying23 rfl (by kernel_rfl) ?_)
  refine (valid_is H.out _).mono ?_
  rintro e w1 ⟨rfl, hf⟩
  have HA : Hid (Bk w1 w.heap.size 23 (cfgA c)) := (Bk.new w _ _).fr hf (by simp)
  have HF : Hid (Fr [] w w1) := ((Fr.refl [] w).alloc _).trans hf (by simp)
  clear hf
  have c4 : w1.cell? ⟨w.heap.size, 4, none⟩ = some (.int .i64 (c 4)) := HA.out.cell 4
  have c5 : w1.cell? ⟨w.heap.size, 5, none⟩ = some (.int .i64 (c 5)) := HA.out.cell 5
  have c6 : w1.cell? ⟨w.heap.size, 6, none⟩ = some (.int .i64 (c 6)) := HA.out.cell 6
  rcases hcase with ⟨k1, rfl⟩ | ⟨k1, rfl⟩ | ⟨k1, k2, rfl⟩
  all_goals
    go_wp2_with fail
    go_region
    all_goals
      go_wp2_with fail
      all_goals
        go_ret
        refine ⟨ret_int ?_, HF.out.drew⟩
        have e1 := HL.out
        rw [HB0.out] at e1
        rw [e1]
        first
          | (simp; omega)
          | (split <;> first | rfl | omega | (simp; omega))

theorem limit_any (c : Nat → Int) (base : Int) (w : World) :
    Calls Tryz.prog 23 #[.agg (cfgA c), .int .i64 base] w fun e w' => e = .returned (.int .i64 (limitOf c base)) ∧ Fr [] w w' := by
  rcases Bool.eq_false_or_eq_true (validB c) with h | h
  · exact limit_yes c base w h
  · exact limit_no c base w h

theorem big_is (c : Nat → Int) (words : Int) (w : World) :
    Calls Tryz.prog 61 #[.agg (cfgA c), .int .i64 words] w fun e w' => e = .returned (.bool (bigB c words)) ∧ Fr [] w w' := by
  have hB : Bk (w.alloc (.cells (cfgA c) 23)) w.heap.size 23 (cfgA c) := Bk.new w _ _
  have HF : Hid (Fr [] w (w.alloc (.cells (cfgA c) 23))) := (Fr.refl [] w).alloc _
  have c0 : (w.alloc (.cells (cfgA c) 23)).cell? ⟨w.heap.size, 0, none⟩ = some (.int .i64 (c 0)) := hB.cell 0
  have c3 : (w.alloc (.cells (cfgA c) 23)).cell? ⟨w.heap.size, 3, none⟩ = some (.int .i64 (c 3)) := hB.cell 3
  clear hB
  go_enter Tryz.func61, Tryz.ntmps61
  go_upto_region 1 with fail
  generalize w.alloc (.cells (cfgA c) 23) = w1 at *
  go_wp2
  all_goals
    go_ret
    exact ⟨by simp [bigB, *], HF.out⟩

theorem rbig_is (c : Nat → Int) (words : Int) (w : World) :
    Calls Tryz.prog 97 #[.agg (cfgA c), .int .i64 words] w fun e w' => e = .returned (.bool (bigB c words)) ∧ Fr [] w w' := by
  have hB : Bk (w.alloc (.cells (cfgA c) 23)) w.heap.size 23 (cfgA c) := Bk.new w _ _
  have HF : Hid (Fr [] w (w.alloc (.cells (cfgA c) 23))) := (Fr.refl [] w).alloc _
  have c0 : (w.alloc (.cells (cfgA c) 23)).cell? ⟨w.heap.size, 0, none⟩ = some (.int .i64 (c 0)) := hB.cell 0
  have c3 : (w.alloc (.cells (cfgA c) 23)).cell? ⟨w.heap.size, 3, none⟩ = some (.int .i64 (c 3)) := hB.cell 3
  clear hB
  go_enter Tryz.func97, Tryz.ntmps97
  go_upto_region 1 with fail
  generalize w.alloc (.cells (cfgA c) 23) = w1 at *
  go_wp2
  all_goals
    go_ret
    exact ⟨by simp [bigB, *], HF.out⟩

theorem rlimit_no (c : Nat → Int) (base : Int) (w : World) (h : validB c = false) :
    Calls Tryz.prog 70 #[.agg (cfgA c), .int .i64 base] w fun e w' => e = .returned (.int .i64 (limitOf c base)) ∧ Fr [] w w' := by
  have hl : limitOf c base = 0 := by unfold limitOf; rw [h]; rfl
  rw [hl]
  have H := Lib.hid h
  clear h hl
  go_enter Tryz.func70, Tryz.ntmps70
  go_wp2_with (refine wpList_load_row rfl 23 _ rfl w.heap.size rfl 23 (cfgA c) (0, 0) _ (heap_alloc_new w _) Tryz.underlying23 rfl (by kernel_rfl) ?_)
  refine (rvalid_is H.out _).mono ?_
  rintro e w1 ⟨rfl, hf⟩
  have HF : Hid (Fr [] w w1) := ((Fr.refl [] w).alloc _).trans hf (by simp)
  clear hf
  go_wp2_with fail
  go_ret
  exact ⟨rfl, HF.out⟩

theorem rlimit_yes (c : Nat → Int) (base : Int) (w : World) (h : validB c = true) :
    Calls Tryz.prog 70 #[.agg (cfgA c), .int .i64 base] w fun e w' => e = .returned (.int .i64 (limitOf c base)) ∧ Fr [] w w' := by
  have o := okC h
  have hb := clampB_bound base
  have hm := mul_bound hb.1 hb.2 (show 0 ≤ c 5 by have := o.e5; have := o.e6; omega) o.e5.2
  have hd := div_bound hm.1 o.e6
  have h4 := o.e4
  have h6 := o.e6
  have hl : limitOf c base = if clampB base * c 5 / c 6 < c 4 then c 4 else clampB base * c 5 / c 6 := by unfold limitOf; rw [h]; rfl
  have H := Lib.hid h
  have HL := Lib.hid hl
  clear h hl o
  have hcl : ∃ b0, clampB base = b0 ∧ ((base < 0 ∧ b0 = 0) ∨ (65536 < base ∧ b0 = 65536) ∨ (0 ≤ base ∧ base ≤ 65536 ∧ b0 = base)) := by
    refine ⟨_, rfl, ?_⟩
    unfold clampB
    repeat' split
    all_goals omega
  obtain ⟨b0, hb0, hcase⟩ := hcl
  rw [hb0] at hb hm hd
  have HB0 := Lib.hid hb0
  clear hb0
  go_enter Tryz.func70, Tryz.ntmps70
  go_wp2_with (refine wpList_load_row rfl 23 _ rfl w.heap.size rfl 23 (cfgA c) (0, 0) _ (heap_alloc_new w _) Tryz.underlying23 rfl (by kernel_rfl) ?_)
  refine (rvalid_is H.out _).mono ?_
  rintro e w1 ⟨rfl, hf⟩
  have HA : Hid (Bk w1 w.heap.size 23 (cfgA c)) := (Bk.new w _ _).fr hf (by simp)
  have HF : Hid (Fr [] w w1) := ((Fr.refl [] w).alloc _).trans hf (by simp)
  clear hf
  have c4 : w1.cell? ⟨w.heap.size, 4, none⟩ = some (.int .i64 (c 4)) := HA.out.cell 4
  have c5 : w1.cell? ⟨w.heap.size, 5, none⟩ = some (.int .i64 (c 5)) := HA.out.cell 5
  have c6 : w1.cell? ⟨w.heap.size, 6, none⟩ = some (.int .i64 (c 6)) := HA.out.cell 6
  rcases hcase with ⟨k1, rfl⟩ | ⟨k1, rfl⟩ | ⟨k1, k2, rfl⟩
  all_goals
    go_wp2_with fail
    all_goals
      go_ret
      refine ⟨ret_int ?_, HF.out⟩
      have e1 := HL.out
      rw [HB0.out] at e1
      rw [e1]
      first
        | (simp; omega)
        | (split <;> first | rfl | omega | (simp; omega))

theorem rlimit_any (c : Nat → Int) (base : Int) (w : World) :
    Calls Tryz.prog 70 #[.agg (cfgA c), .int .i64 base] w fun e w' => e = .returned (.int .i64 (limitOf c base)) ∧ Fr [] w w' := by
  rcases Bool.eq_false_or_eq_true (validB c) with h | h
  · exact rlimit_yes c base w h
  · exact rlimit_no c base w h
end Go.Proofs.YtdcppdgnekhcgaaGreatDoor
