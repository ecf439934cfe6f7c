/-
  Begin of the program.
-/
import Derived.Test.YtdcppdgnekhcgaaGreatDoorPol4
import Derived.Test.YtdcppdgnekhcgaaGreatDoorPol5
import Derived.Deep.RegionHeld3
namespace Go.Proofs.YtdcppdgnekhcgaaGreatDoor
open Go.RowKit Pol
set_option maxRecDepth 100000

theorem cfg_cells {c : Nat → Int} {a : Nat} {W : World} (h : Bk W a 23 (cfgA c)) : W.cell? ⟨a, 0, none⟩ = some (.int .i64 (c 0)) ∧ W.cell? ⟨a, 1, none⟩ = some (.int .i64 (c 1)) ∧ W.cell? ⟨a, 2, none⟩ = some (.int .i64 (c 2)) ∧ W.cell? ⟨a, 3, none⟩ = some (.int .i64 (c 3)) ∧ W.cell? ⟨a, 4, none⟩ = some (.int .i64 (c 4)) ∧ W.cell? ⟨a, 5, none⟩ = some (.int .i64 (c 5)) ∧ W.cell? ⟨a, 6, none⟩ = some (.int .i64 (c 6)) ∧ W.cell? ⟨a, 7, none⟩ = some (.int .i64 (c 7)) ∧ W.cell? ⟨a, 8, none⟩ = some (.int .i64 (c 8)) ∧ W.cell? ⟨a, 9, none⟩ = some (.int .i64 (c 9)) ∧ W.cell? ⟨a, 10, none⟩ = some (.int .i64 (c 10)) ∧ W.cell? ⟨a, 11, none⟩ = some (.int .i64 (c 11)) ∧ W.cell? ⟨a, 12, none⟩ = some (.int .i64 (c 12)) ∧ W.cell? ⟨a, 13, none⟩ = some (.int .i64 (c 13)) :=
  ⟨h.cell 0, h.cell 1, h.cell 2, h.cell 3, h.cell 4, h.cell 5, h.cell 6, h.cell 7, h.cell 8, h.cell 9, h.cell 10, h.cell 11, h.cell 12, h.cell 13⟩

theorem begin_bad (c : Nat → Int) (base kind words : Int) (w : World) (h : validB c = false) :
    Calls Tryz.prog 20 #[.agg (cfgA c), .int .i64 base, .int .i64 kind, .int .i64 words] w fun e w' => e = .returned (.tuple #[.pointer none, .int .i64 30]) ∧ Fr [] w w' := by
  have H := Lib.hid h
  clear h
  go_enter Tryz.func20, Tryz.ntmps20
  go_wp2_with (refine wpList_load_row rfl 23 _ rfl w.heap.size rfl 23 (cfgA c) (0, 0) _ (heap_alloc_new w _) Tryz.underlying23 rfl (by kernel_rfl) ?_)
  refine (valid_is H.out _).mono ?_
  rintro e w1 ⟨rfl, hf⟩
  have HF : Hid (Fr [] w w1) := ((Fr.refl [] w).alloc _).trans hf (by simp)
  clear hf
  go_wp2_with fail
  go_ret2
  exact ⟨rfl, HF.out⟩

/-- Where a turn begins. -/
def phOf (c : Nat → Int) (kind words : Int) : Ph :=
  if kind = 1 then (if bigB c words then .big else .small) else if kind = 2 then .minor else if kind = 3 then .all else if kind = 4 then .major else .closing
def st0 (ph : Ph) : St := ⟨ph, false, false, false⟩
theorem ok0 (ph : Ph) : Ok (st0 ph) [] := by constructor <;> simp [st0]

def BeginOk (c : Nat → Int) (base kind words : Int) (w : World) (e : Ending) (w' : World) : Prop :=
  ∃ g, e = .returned (.tuple #[.pointer (some ⟨g, 0, none⟩), .int .i64 0]) ∧ w.heap.size ≤ g ∧ PT w' g c base (limitOf c base) words (st0 (phOf c kind words)) [] (.slice none 0 0) ∧ Fr [] w w'
def NoneAt (n : Int) (w : World) (e : Ending) (w' : World) : Prop := e = .returned (.tuple #[.pointer none, .int .i64 n]) ∧ Fr [] w w'

theorem begin_end {c : Nat → Int} {base kind words : Int} {w w3 : World} {g : Nat} {f : Value} {ph : Ph} (hph : phOf c kind words = ph) (hf : f = stepV ph) (hw0 : kind = 1 → 2 ≤ words) (hw1 : words ≤ 9223372036854775807) (hg : w.heap.size ≤ g)
    (hB : Bk w3 g 100 (turnC c base (limitOf c base) words 0 (.slice none 0 0) f)) (hF : Fr [] w w3) :
    BeginOk c base kind words w (.returned (.tuple #[.pointer (some ⟨g, 0, none⟩), .int .i64 0])) w3 := by
  subst hf
  refine ⟨g, rfl, hg, ⟨by rw [hph]; exact hB, by simpa [ints] using World.ownsRow_nil w3 0 3 1, ok0 _, (limitOf_bound c base).1, (limitOf_bound c base).2, fun h => ?_, hw1⟩, hF⟩
  refine hw0 ?_
  unfold phOf st0 at h
  simp only at h
  by_cases hk : kind = 1
  · exact hk
  · rw [if_neg hk] at h
    repeat' split at h
    all_goals cases h

theorem begin_kind (c : Nat → Int) (base kind words : Int) (w : World) (h : validB c = true) (hk : kind < 1 ∨ 5 < kind) :
    Calls Tryz.prog 20 #[.agg (cfgA c), .int .i64 base, .int .i64 kind, .int .i64 words] w (NoneAt 120 w) := by
  have b1 : (kind == 1) = false := by rw [beq_eq_false_iff_ne]; omega
  have b2 : (kind == 2) = false := by rw [beq_eq_false_iff_ne]; omega
  have b3 : (kind == 3) = false := by rw [beq_eq_false_iff_ne]; omega
  have b4 : (kind == 4) = false := by rw [beq_eq_false_iff_ne]; omega
  have b5 : (kind == 5) = false := by rw [beq_eq_false_iff_ne]; omega
  clear hk
  have H := Lib.hid h
  clear h
  go_enter Tryz.func20, Tryz.ntmps20
  go_wp2_with (refine wpList_load_row rfl 23 _ rfl w.heap.size rfl 23 (cfgA c) (0, 0) _ (heap_alloc_new w _) Tryz.underlying23 rfl (by kernel_rfl) ?_)
  refine (valid_is H.out _).mono ?_
  rintro e w1 ⟨rfl, hf⟩
  have HF : Hid (Fr [] w w1) := ((Fr.refl [] w).alloc _).trans hf (by simp)
  have HA : Bk w1 w.heap.size 23 (cfgA c) := (Bk.new w _ _).fr hf (by simp)
  clear hf
  have HA := Lib.hid HA
  have HAd := Lib.hid HA.out.drew
  go_upto_region 3 with fail
  go_region_held3 (fun W => W.cell? ⟨w.heap.size, 0, none⟩ = some (.int .i64 (c 0)) ∧ W.cell? ⟨w.heap.size, 1, none⟩ = some (.int .i64 (c 1)) ∧ W.cell? ⟨w.heap.size, 2, none⟩ = some (.int .i64 (c 2)) ∧ W.cell? ⟨w.heap.size, 3, none⟩ = some (.int .i64 (c 3)) ∧ W.cell? ⟨w.heap.size, 4, none⟩ = some (.int .i64 (c 4)) ∧ W.cell? ⟨w.heap.size, 5, none⟩ = some (.int .i64 (c 5)) ∧ W.cell? ⟨w.heap.size, 6, none⟩ = some (.int .i64 (c 6)) ∧ W.cell? ⟨w.heap.size, 7, none⟩ = some (.int .i64 (c 7)) ∧ W.cell? ⟨w.heap.size, 8, none⟩ = some (.int .i64 (c 8)) ∧ W.cell? ⟨w.heap.size, 9, none⟩ = some (.int .i64 (c 9)) ∧ W.cell? ⟨w.heap.size, 10, none⟩ = some (.int .i64 (c 10)) ∧ W.cell? ⟨w.heap.size, 11, none⟩ = some (.int .i64 (c 11)) ∧ W.cell? ⟨w.heap.size, 12, none⟩ = some (.int .i64 (c 12)) ∧ W.cell? ⟨w.heap.size, 13, none⟩ = some (.int .i64 (c 13))) ((first | exact cfg_cells HAd.out | exact cfg_cells (HAd.out.fr (by assumption) (by simp)) | exact cfg_cells ((HAd.out.fr (by assumption) (by simp)).alloc _))) ((first | (go_at_call 23; refine (limit_any c base _).mono ?_; rintro e w2 ⟨rfl, hf2⟩)))
  have hW : Hid (Bk (w2.alloc (.cells (turnC c base (limitOf c base) words 0 (.slice none 0 0) .nilFunc) 100)) w2.heap.size 100 (turnC c base (limitOf c base) words 0 (.slice none 0 0) .nilFunc) ∧
      Bk (w2.alloc (.cells (turnC c base (limitOf c base) words 0 (.slice none 0 0) .nilFunc) 100)) w.heap.size 23 (cfgA c) ∧
      Fr [] w (w2.alloc (.cells (turnC c base (limitOf c base) words 0 (.slice none 0 0) .nilFunc) 100)) ∧ w.heap.size ≤ w2.heap.size) :=
    ⟨Bk.new _ _ _, (HAd.out.fr hf2 (by simp)).alloc _, (HF.out.drew.trans hf2 (by simp)).alloc _, by have := HF.out.size; have h2 := hf2.size; simp at h2; omega⟩
  clear hf2
  generalize hw3 : w2.alloc (.cells (turnC c base (limitOf c base) words 0 (.slice none 0 0) .nilFunc) 100) = w3 at *
  change Exit.then _ _ _ _ (w2.alloc (.cells (turnC c base (limitOf c base) words 0 (.slice none 0 0) .nilFunc) 100))
  rw [hw3]
  clear hw3
  generalize w2.heap.size = g at *
  have d19 : w3.cell? ⟨g, 19, none⟩ = some .nilFunc := hW.out.1.cell 19
  have f19 := hW.out.1.free 19
  go_wp2_with fail
  go_ret2
  exact ⟨rfl, hW.out.2.2.1⟩

theorem begin_neg2 (c : Nat → Int) (base words : Int) (w : World) (h : validB c = true) (hb : base < 0) :
    Calls Tryz.prog 20 #[.agg (cfgA c), .int .i64 base, .int .i64 2, .int .i64 words] w (NoneAt 121 w) := by
  have H := Lib.hid h
  clear h
  go_enter Tryz.func20, Tryz.ntmps20
  go_wp2_with (refine wpList_load_row rfl 23 _ rfl w.heap.size rfl 23 (cfgA c) (0, 0) _ (heap_alloc_new w _) Tryz.underlying23 rfl (by kernel_rfl) ?_)
  refine (valid_is H.out _).mono ?_
  rintro e w1 ⟨rfl, hf⟩
  have HF : Hid (Fr [] w w1) := ((Fr.refl [] w).alloc _).trans hf (by simp)
  have HA : Bk w1 w.heap.size 23 (cfgA c) := (Bk.new w _ _).fr hf (by simp)
  clear hf
  have HA := Lib.hid HA
  have HAd := Lib.hid HA.out.drew
  go_upto_region 3 with fail
  go_region_held3 (fun W => W.cell? ⟨w.heap.size, 0, none⟩ = some (.int .i64 (c 0)) ∧ W.cell? ⟨w.heap.size, 1, none⟩ = some (.int .i64 (c 1)) ∧ W.cell? ⟨w.heap.size, 2, none⟩ = some (.int .i64 (c 2)) ∧ W.cell? ⟨w.heap.size, 3, none⟩ = some (.int .i64 (c 3)) ∧ W.cell? ⟨w.heap.size, 4, none⟩ = some (.int .i64 (c 4)) ∧ W.cell? ⟨w.heap.size, 5, none⟩ = some (.int .i64 (c 5)) ∧ W.cell? ⟨w.heap.size, 6, none⟩ = some (.int .i64 (c 6)) ∧ W.cell? ⟨w.heap.size, 7, none⟩ = some (.int .i64 (c 7)) ∧ W.cell? ⟨w.heap.size, 8, none⟩ = some (.int .i64 (c 8)) ∧ W.cell? ⟨w.heap.size, 9, none⟩ = some (.int .i64 (c 9)) ∧ W.cell? ⟨w.heap.size, 10, none⟩ = some (.int .i64 (c 10)) ∧ W.cell? ⟨w.heap.size, 11, none⟩ = some (.int .i64 (c 11)) ∧ W.cell? ⟨w.heap.size, 12, none⟩ = some (.int .i64 (c 12)) ∧ W.cell? ⟨w.heap.size, 13, none⟩ = some (.int .i64 (c 13))) ((first | exact cfg_cells HAd.out | exact cfg_cells (HAd.out.fr (by assumption) (by simp)) | exact cfg_cells ((HAd.out.fr (by assumption) (by simp)).alloc _))) ((first | (go_at_call 23; refine (limit_any c base _).mono ?_; rintro e w2 ⟨rfl, hf2⟩)))
  have hW : Hid (Bk (w2.alloc (.cells (turnC c base (limitOf c base) words 0 (.slice none 0 0) .nilFunc) 100)) w2.heap.size 100 (turnC c base (limitOf c base) words 0 (.slice none 0 0) .nilFunc) ∧
      Bk (w2.alloc (.cells (turnC c base (limitOf c base) words 0 (.slice none 0 0) .nilFunc) 100)) w.heap.size 23 (cfgA c) ∧
      Fr [] w (w2.alloc (.cells (turnC c base (limitOf c base) words 0 (.slice none 0 0) .nilFunc) 100)) ∧ w.heap.size ≤ w2.heap.size) :=
    ⟨Bk.new _ _ _, (HAd.out.fr hf2 (by simp)).alloc _, (HF.out.drew.trans hf2 (by simp)).alloc _, by have := HF.out.size; have h2 := hf2.size; simp at h2; omega⟩
  clear hf2
  generalize hw3 : w2.alloc (.cells (turnC c base (limitOf c base) words 0 (.slice none 0 0) .nilFunc) 100) = w3 at *
  change Exit.then _ _ _ _ (w2.alloc (.cells (turnC c base (limitOf c base) words 0 (.slice none 0 0) .nilFunc) 100))
  rw [hw3]
  clear hw3
  generalize w2.heap.size = g at *
  have d19 : w3.cell? ⟨g, 19, none⟩ = some .nilFunc := hW.out.1.cell 19
  have f19 := hW.out.1.free 19
  go_wp2_with fail
  go_ret2
  exact ⟨rfl, hW.out.2.2.1.setCell (by have := hW.out.2.2.2; simp; omega) _⟩

theorem begin_k2 (c : Nat → Int) (base words : Int) (w : World) (h : validB c = true) (hb : 0 ≤ base) (hw1 : words ≤ 9223372036854775807) :
    Calls Tryz.prog 20 #[.agg (cfgA c), .int .i64 base, .int .i64 2, .int .i64 words] w (BeginOk c base 2 words w) := by
  have H := Lib.hid h
  clear h
  go_enter Tryz.func20, Tryz.ntmps20
  go_wp2_with (refine wpList_load_row rfl 23 _ rfl w.heap.size rfl 23 (cfgA c) (0, 0) _ (heap_alloc_new w _) Tryz.underlying23 rfl (by kernel_rfl) ?_)
  refine (valid_is H.out _).mono ?_
  rintro e w1 ⟨rfl, hf⟩
  have HF : Hid (Fr [] w w1) := ((Fr.refl [] w).alloc _).trans hf (by simp)
  have HA : Bk w1 w.heap.size 23 (cfgA c) := (Bk.new w _ _).fr hf (by simp)
  clear hf
  have HA := Lib.hid HA
  have HAd := Lib.hid HA.out.drew
  go_upto_region 3 with fail
  go_region_held3 (fun W => W.cell? ⟨w.heap.size, 0, none⟩ = some (.int .i64 (c 0)) ∧ W.cell? ⟨w.heap.size, 1, none⟩ = some (.int .i64 (c 1)) ∧ W.cell? ⟨w.heap.size, 2, none⟩ = some (.int .i64 (c 2)) ∧ W.cell? ⟨w.heap.size, 3, none⟩ = some (.int .i64 (c 3)) ∧ W.cell? ⟨w.heap.size, 4, none⟩ = some (.int .i64 (c 4)) ∧ W.cell? ⟨w.heap.size, 5, none⟩ = some (.int .i64 (c 5)) ∧ W.cell? ⟨w.heap.size, 6, none⟩ = some (.int .i64 (c 6)) ∧ W.cell? ⟨w.heap.size, 7, none⟩ = some (.int .i64 (c 7)) ∧ W.cell? ⟨w.heap.size, 8, none⟩ = some (.int .i64 (c 8)) ∧ W.cell? ⟨w.heap.size, 9, none⟩ = some (.int .i64 (c 9)) ∧ W.cell? ⟨w.heap.size, 10, none⟩ = some (.int .i64 (c 10)) ∧ W.cell? ⟨w.heap.size, 11, none⟩ = some (.int .i64 (c 11)) ∧ W.cell? ⟨w.heap.size, 12, none⟩ = some (.int .i64 (c 12)) ∧ W.cell? ⟨w.heap.size, 13, none⟩ = some (.int .i64 (c 13))) ((first | exact cfg_cells HAd.out | exact cfg_cells (HAd.out.fr (by assumption) (by simp)) | exact cfg_cells ((HAd.out.fr (by assumption) (by simp)).alloc _))) ((first | (go_at_call 23; refine (limit_any c base _).mono ?_; rintro e w2 ⟨rfl, hf2⟩)))
  have hW : Hid (Bk (w2.alloc (.cells (turnC c base (limitOf c base) words 0 (.slice none 0 0) .nilFunc) 100)) w2.heap.size 100 (turnC c base (limitOf c base) words 0 (.slice none 0 0) .nilFunc) ∧
      Bk (w2.alloc (.cells (turnC c base (limitOf c base) words 0 (.slice none 0 0) .nilFunc) 100)) w.heap.size 23 (cfgA c) ∧
      Fr [] w (w2.alloc (.cells (turnC c base (limitOf c base) words 0 (.slice none 0 0) .nilFunc) 100)) ∧ w.heap.size ≤ w2.heap.size) :=
    ⟨Bk.new _ _ _, (HAd.out.fr hf2 (by simp)).alloc _, (HF.out.drew.trans hf2 (by simp)).alloc _, by have := HF.out.size; have h2 := hf2.size; simp at h2; omega⟩
  clear hf2
  generalize hw3 : w2.alloc (.cells (turnC c base (limitOf c base) words 0 (.slice none 0 0) .nilFunc) 100) = w3 at *
  change Exit.then _ _ _ _ (w2.alloc (.cells (turnC c base (limitOf c base) words 0 (.slice none 0 0) .nilFunc) 100))
  rw [hw3]
  clear hw3
  generalize w2.heap.size = g at *
  have d19 : w3.cell? ⟨g, 19, none⟩ = some .nilFunc := hW.out.1.cell 19
  have f19 := hW.out.1.free 19
  go_wp2_with fail
  go_ret2
  exact begin_end (ph := .minor) (by simp [phOf]) rfl (by omega) hw1 hW.out.2.2.2 (hW.out.1.put 19 _) (hW.out.2.2.1.setCell (by have := hW.out.2.2.2; simp; omega) _)

theorem begin_neg3 (c : Nat → Int) (base words : Int) (w : World) (h : validB c = true) (hb : base < 0) :
    Calls Tryz.prog 20 #[.agg (cfgA c), .int .i64 base, .int .i64 3, .int .i64 words] w (NoneAt 121 w) := by
  have H := Lib.hid h
  clear h
  go_enter Tryz.func20, Tryz.ntmps20
  go_wp2_with (refine wpList_load_row rfl 23 _ rfl w.heap.size rfl 23 (cfgA c) (0, 0) _ (heap_alloc_new w _) Tryz.underlying23 rfl (by kernel_rfl) ?_)
  refine (valid_is H.out _).mono ?_
  rintro e w1 ⟨rfl, hf⟩
  have HF : Hid (Fr [] w w1) := ((Fr.refl [] w).alloc _).trans hf (by simp)
  have HA : Bk w1 w.heap.size 23 (cfgA c) := (Bk.new w _ _).fr hf (by simp)
  clear hf
  have HA := Lib.hid HA
  have HAd := Lib.hid HA.out.drew
  go_upto_region 3 with fail
  go_region_held3 (fun W => W.cell? ⟨w.heap.size, 0, none⟩ = some (.int .i64 (c 0)) ∧ W.cell? ⟨w.heap.size, 1, none⟩ = some (.int .i64 (c 1)) ∧ W.cell? ⟨w.heap.size, 2, none⟩ = some (.int .i64 (c 2)) ∧ W.cell? ⟨w.heap.size, 3, none⟩ = some (.int .i64 (c 3)) ∧ W.cell? ⟨w.heap.size, 4, none⟩ = some (.int .i64 (c 4)) ∧ W.cell? ⟨w.heap.size, 5, none⟩ = some (.int .i64 (c 5)) ∧ W.cell? ⟨w.heap.size, 6, none⟩ = some (.int .i64 (c 6)) ∧ W.cell? ⟨w.heap.size, 7, none⟩ = some (.int .i64 (c 7)) ∧ W.cell? ⟨w.heap.size, 8, none⟩ = some (.int .i64 (c 8)) ∧ W.cell? ⟨w.heap.size, 9, none⟩ = some (.int .i64 (c 9)) ∧ W.cell? ⟨w.heap.size, 10, none⟩ = some (.int .i64 (c 10)) ∧ W.cell? ⟨w.heap.size, 11, none⟩ = some (.int .i64 (c 11)) ∧ W.cell? ⟨w.heap.size, 12, none⟩ = some (.int .i64 (c 12)) ∧ W.cell? ⟨w.heap.size, 13, none⟩ = some (.int .i64 (c 13))) ((first | exact cfg_cells HAd.out | exact cfg_cells (HAd.out.fr (by assumption) (by simp)) | exact cfg_cells ((HAd.out.fr (by assumption) (by simp)).alloc _))) ((first | (go_at_call 23; refine (limit_any c base _).mono ?_; rintro e w2 ⟨rfl, hf2⟩)))
  have hW : Hid (Bk (w2.alloc (.cells (turnC c base (limitOf c base) words 0 (.slice none 0 0) .nilFunc) 100)) w2.heap.size 100 (turnC c base (limitOf c base) words 0 (.slice none 0 0) .nilFunc) ∧
      Bk (w2.alloc (.cells (turnC c base (limitOf c base) words 0 (.slice none 0 0) .nilFunc) 100)) w.heap.size 23 (cfgA c) ∧
      Fr [] w (w2.alloc (.cells (turnC c base (limitOf c base) words 0 (.slice none 0 0) .nilFunc) 100)) ∧ w.heap.size ≤ w2.heap.size) :=
    ⟨Bk.new _ _ _, (HAd.out.fr hf2 (by simp)).alloc _, (HF.out.drew.trans hf2 (by simp)).alloc _, by have := HF.out.size; have h2 := hf2.size; simp at h2; omega⟩
  clear hf2
  generalize hw3 : w2.alloc (.cells (turnC c base (limitOf c base) words 0 (.slice none 0 0) .nilFunc) 100) = w3 at *
  change Exit.then _ _ _ _ (w2.alloc (.cells (turnC c base (limitOf c base) words 0 (.slice none 0 0) .nilFunc) 100))
  rw [hw3]
  clear hw3
  generalize w2.heap.size = g at *
  have d19 : w3.cell? ⟨g, 19, none⟩ = some .nilFunc := hW.out.1.cell 19
  have f19 := hW.out.1.free 19
  go_wp2_with fail
  go_ret2
  exact ⟨rfl, hW.out.2.2.1.setCell (by have := hW.out.2.2.2; simp; omega) _⟩

theorem begin_k3 (c : Nat → Int) (base words : Int) (w : World) (h : validB c = true) (hb : 0 ≤ base) (hw1 : words ≤ 9223372036854775807) :
    Calls Tryz.prog 20 #[.agg (cfgA c), .int .i64 base, .int .i64 3, .int .i64 words] w (BeginOk c base 3 words w) := by
  have H := Lib.hid h
  clear h
  go_enter Tryz.func20, Tryz.ntmps20
  go_wp2_with (refine wpList_load_row rfl 23 _ rfl w.heap.size rfl 23 (cfgA c) (0, 0) _ (heap_alloc_new w _) Tryz.underlying23 rfl (by kernel_rfl) ?_)
  refine (valid_is H.out _).mono ?_
  rintro e w1 ⟨rfl, hf⟩
  have HF : Hid (Fr [] w w1) := ((Fr.refl [] w).alloc _).trans hf (by simp)
  have HA : Bk w1 w.heap.size 23 (cfgA c) := (Bk.new w _ _).fr hf (by simp)
  clear hf
  have HA := Lib.hid HA
  have HAd := Lib.hid HA.out.drew
  go_upto_region 3 with fail
  go_region_held3 (fun W => W.cell? ⟨w.heap.size, 0, none⟩ = some (.int .i64 (c 0)) ∧ W.cell? ⟨w.heap.size, 1, none⟩ = some (.int .i64 (c 1)) ∧ W.cell? ⟨w.heap.size, 2, none⟩ = some (.int .i64 (c 2)) ∧ W.cell? ⟨w.heap.size, 3, none⟩ = some (.int .i64 (c 3)) ∧ W.cell? ⟨w.heap.size, 4, none⟩ = some (.int .i64 (c 4)) ∧ W.cell? ⟨w.heap.size, 5, none⟩ = some (.int .i64 (c 5)) ∧ W.cell? ⟨w.heap.size, 6, none⟩ = some (.int .i64 (c 6)) ∧ W.cell? ⟨w.heap.size, 7, none⟩ = some (.int .i64 (c 7)) ∧ W.cell? ⟨w.heap.size, 8, none⟩ = some (.int .i64 (c 8)) ∧ W.cell? ⟨w.heap.size, 9, none⟩ = some (.int .i64 (c 9)) ∧ W.cell? ⟨w.heap.size, 10, none⟩ = some (.int .i64 (c 10)) ∧ W.cell? ⟨w.heap.size, 11, none⟩ = some (.int .i64 (c 11)) ∧ W.cell? ⟨w.heap.size, 12, none⟩ = some (.int .i64 (c 12)) ∧ W.cell? ⟨w.heap.size, 13, none⟩ = some (.int .i64 (c 13))) ((first | exact cfg_cells HAd.out | exact cfg_cells (HAd.out.fr (by assumption) (by simp)) | exact cfg_cells ((HAd.out.fr (by assumption) (by simp)).alloc _))) ((first | (go_at_call 23; refine (limit_any c base _).mono ?_; rintro e w2 ⟨rfl, hf2⟩)))
  have hW : Hid (Bk (w2.alloc (.cells (turnC c base (limitOf c base) words 0 (.slice none 0 0) .nilFunc) 100)) w2.heap.size 100 (turnC c base (limitOf c base) words 0 (.slice none 0 0) .nilFunc) ∧
      Bk (w2.alloc (.cells (turnC c base (limitOf c base) words 0 (.slice none 0 0) .nilFunc) 100)) w.heap.size 23 (cfgA c) ∧
      Fr [] w (w2.alloc (.cells (turnC c base (limitOf c base) words 0 (.slice none 0 0) .nilFunc) 100)) ∧ w.heap.size ≤ w2.heap.size) :=
    ⟨Bk.new _ _ _, (HAd.out.fr hf2 (by simp)).alloc _, (HF.out.drew.trans hf2 (by simp)).alloc _, by have := HF.out.size; have h2 := hf2.size; simp at h2; omega⟩
  clear hf2
  generalize hw3 : w2.alloc (.cells (turnC c base (limitOf c base) words 0 (.slice none 0 0) .nilFunc) 100) = w3 at *
  change Exit.then _ _ _ _ (w2.alloc (.cells (turnC c base (limitOf c base) words 0 (.slice none 0 0) .nilFunc) 100))
  rw [hw3]
  clear hw3
  generalize w2.heap.size = g at *
  have d19 : w3.cell? ⟨g, 19, none⟩ = some .nilFunc := hW.out.1.cell 19
  have f19 := hW.out.1.free 19
  go_wp2_with fail
  go_ret2
  exact begin_end (ph := .all) (by simp [phOf]) rfl (by omega) hw1 hW.out.2.2.2 (hW.out.1.put 19 _) (hW.out.2.2.1.setCell (by have := hW.out.2.2.2; simp; omega) _)

theorem begin_neg4 (c : Nat → Int) (base words : Int) (w : World) (h : validB c = true) (hb : base < 0) :
    Calls Tryz.prog 20 #[.agg (cfgA c), .int .i64 base, .int .i64 4, .int .i64 words] w (NoneAt 121 w) := by
  have H := Lib.hid h
  clear h
  go_enter Tryz.func20, Tryz.ntmps20
  go_wp2_with (refine wpList_load_row rfl 23 _ rfl w.heap.size rfl 23 (cfgA c) (0, 0) _ (heap_alloc_new w _) Tryz.underlying23 rfl (by kernel_rfl) ?_)
  refine (valid_is H.out _).mono ?_
  rintro e w1 ⟨rfl, hf⟩
  have HF : Hid (Fr [] w w1) := ((Fr.refl [] w).alloc _).trans hf (by simp)
  have HA : Bk w1 w.heap.size 23 (cfgA c) := (Bk.new w _ _).fr hf (by simp)
  clear hf
  have HA := Lib.hid HA
  have HAd := Lib.hid HA.out.drew
  go_upto_region 3 with fail
  go_region_held3 (fun W => W.cell? ⟨w.heap.size, 0, none⟩ = some (.int .i64 (c 0)) ∧ W.cell? ⟨w.heap.size, 1, none⟩ = some (.int .i64 (c 1)) ∧ W.cell? ⟨w.heap.size, 2, none⟩ = some (.int .i64 (c 2)) ∧ W.cell? ⟨w.heap.size, 3, none⟩ = some (.int .i64 (c 3)) ∧ W.cell? ⟨w.heap.size, 4, none⟩ = some (.int .i64 (c 4)) ∧ W.cell? ⟨w.heap.size, 5, none⟩ = some (.int .i64 (c 5)) ∧ W.cell? ⟨w.heap.size, 6, none⟩ = some (.int .i64 (c 6)) ∧ W.cell? ⟨w.heap.size, 7, none⟩ = some (.int .i64 (c 7)) ∧ W.cell? ⟨w.heap.size, 8, none⟩ = some (.int .i64 (c 8)) ∧ W.cell? ⟨w.heap.size, 9, none⟩ = some (.int .i64 (c 9)) ∧ W.cell? ⟨w.heap.size, 10, none⟩ = some (.int .i64 (c 10)) ∧ W.cell? ⟨w.heap.size, 11, none⟩ = some (.int .i64 (c 11)) ∧ W.cell? ⟨w.heap.size, 12, none⟩ = some (.int .i64 (c 12)) ∧ W.cell? ⟨w.heap.size, 13, none⟩ = some (.int .i64 (c 13))) ((first | exact cfg_cells HAd.out | exact cfg_cells (HAd.out.fr (by assumption) (by simp)) | exact cfg_cells ((HAd.out.fr (by assumption) (by simp)).alloc _))) ((first | (go_at_call 23; refine (limit_any c base _).mono ?_; rintro e w2 ⟨rfl, hf2⟩)))
  have hW : Hid (Bk (w2.alloc (.cells (turnC c base (limitOf c base) words 0 (.slice none 0 0) .nilFunc) 100)) w2.heap.size 100 (turnC c base (limitOf c base) words 0 (.slice none 0 0) .nilFunc) ∧
      Bk (w2.alloc (.cells (turnC c base (limitOf c base) words 0 (.slice none 0 0) .nilFunc) 100)) w.heap.size 23 (cfgA c) ∧
      Fr [] w (w2.alloc (.cells (turnC c base (limitOf c base) words 0 (.slice none 0 0) .nilFunc) 100)) ∧ w.heap.size ≤ w2.heap.size) :=
    ⟨Bk.new _ _ _, (HAd.out.fr hf2 (by simp)).alloc _, (HF.out.drew.trans hf2 (by simp)).alloc _, by have := HF.out.size; have h2 := hf2.size; simp at h2; omega⟩
  clear hf2
  generalize hw3 : w2.alloc (.cells (turnC c base (limitOf c base) words 0 (.slice none 0 0) .nilFunc) 100) = w3 at *
  change Exit.then _ _ _ _ (w2.alloc (.cells (turnC c base (limitOf c base) words 0 (.slice none 0 0) .nilFunc) 100))
  rw [hw3]
  clear hw3
  generalize w2.heap.size = g at *
  have d19 : w3.cell? ⟨g, 19, none⟩ = some .nilFunc := hW.out.1.cell 19
  have f19 := hW.out.1.free 19
  go_wp2_with fail
  go_ret2
  exact ⟨rfl, hW.out.2.2.1.setCell (by have := hW.out.2.2.2; simp; omega) _⟩

theorem begin_k4 (c : Nat → Int) (base words : Int) (w : World) (h : validB c = true) (hb : 0 ≤ base) (hw1 : words ≤ 9223372036854775807) :
    Calls Tryz.prog 20 #[.agg (cfgA c), .int .i64 base, .int .i64 4, .int .i64 words] w (BeginOk c base 4 words w) := by
  have H := Lib.hid h
  clear h
  go_enter Tryz.func20, Tryz.ntmps20
  go_wp2_with (refine wpList_load_row rfl 23 _ rfl w.heap.size rfl 23 (cfgA c) (0, 0) _ (heap_alloc_new w _) Tryz.underlying23 rfl (by kernel_rfl) ?_)
  refine (valid_is H.out _).mono ?_
  rintro e w1 ⟨rfl, hf⟩
  have HF : Hid (Fr [] w w1) := ((Fr.refl [] w).alloc _).trans hf (by simp)
  have HA : Bk w1 w.heap.size 23 (cfgA c) := (Bk.new w _ _).fr hf (by simp)
  clear hf
  have HA := Lib.hid HA
  have HAd := Lib.hid HA.out.drew
  go_upto_region 3 with fail
  go_region_held3 (fun W => W.cell? ⟨w.heap.size, 0, none⟩ = some (.int .i64 (c 0)) ∧ W.cell? ⟨w.heap.size, 1, none⟩ = some (.int .i64 (c 1)) ∧ W.cell? ⟨w.heap.size, 2, none⟩ = some (.int .i64 (c 2)) ∧ W.cell? ⟨w.heap.size, 3, none⟩ = some (.int .i64 (c 3)) ∧ W.cell? ⟨w.heap.size, 4, none⟩ = some (.int .i64 (c 4)) ∧ W.cell? ⟨w.heap.size, 5, none⟩ = some (.int .i64 (c 5)) ∧ W.cell? ⟨w.heap.size, 6, none⟩ = some (.int .i64 (c 6)) ∧ W.cell? ⟨w.heap.size, 7, none⟩ = some (.int .i64 (c 7)) ∧ W.cell? ⟨w.heap.size, 8, none⟩ = some (.int .i64 (c 8)) ∧ W.cell? ⟨w.heap.size, 9, none⟩ = some (.int .i64 (c 9)) ∧ W.cell? ⟨w.heap.size, 10, none⟩ = some (.int .i64 (c 10)) ∧ W.cell? ⟨w.heap.size, 11, none⟩ = some (.int .i64 (c 11)) ∧ W.cell? ⟨w.heap.size, 12, none⟩ = some (.int .i64 (c 12)) ∧ W.cell? ⟨w.heap.size, 13, none⟩ = some (.int .i64 (c 13))) ((first | exact cfg_cells HAd.out | exact cfg_cells (HAd.out.fr (by assumption) (by simp)) | exact cfg_cells ((HAd.out.fr (by assumption) (by simp)).alloc _))) ((first | (go_at_call 23; refine (limit_any c base _).mono ?_; rintro e w2 ⟨rfl, hf2⟩)))
  have hW : Hid (Bk (w2.alloc (.cells (turnC c base (limitOf c base) words 0 (.slice none 0 0) .nilFunc) 100)) w2.heap.size 100 (turnC c base (limitOf c base) words 0 (.slice none 0 0) .nilFunc) ∧
      Bk (w2.alloc (.cells (turnC c base (limitOf c base) words 0 (.slice none 0 0) .nilFunc) 100)) w.heap.size 23 (cfgA c) ∧
      Fr [] w (w2.alloc (.cells (turnC c base (limitOf c base) words 0 (.slice none 0 0) .nilFunc) 100)) ∧ w.heap.size ≤ w2.heap.size) :=
    ⟨Bk.new _ _ _, (HAd.out.fr hf2 (by simp)).alloc _, (HF.out.drew.trans hf2 (by simp)).alloc _, by have := HF.out.size; have h2 := hf2.size; simp at h2; omega⟩
  clear hf2
  generalize hw3 : w2.alloc (.cells (turnC c base (limitOf c base) words 0 (.slice none 0 0) .nilFunc) 100) = w3 at *
  change Exit.then _ _ _ _ (w2.alloc (.cells (turnC c base (limitOf c base) words 0 (.slice none 0 0) .nilFunc) 100))
  rw [hw3]
  clear hw3
  generalize w2.heap.size = g at *
  have d19 : w3.cell? ⟨g, 19, none⟩ = some .nilFunc := hW.out.1.cell 19
  have f19 := hW.out.1.free 19
  go_wp2_with fail
  go_ret2
  exact begin_end (ph := .major) (by simp [phOf]) rfl (by omega) hw1 hW.out.2.2.2 (hW.out.1.put 19 _) (hW.out.2.2.1.setCell (by have := hW.out.2.2.2; simp; omega) _)

theorem begin_neg5 (c : Nat → Int) (base words : Int) (w : World) (h : validB c = true) (hb : base < 0) :
    Calls Tryz.prog 20 #[.agg (cfgA c), .int .i64 base, .int .i64 5, .int .i64 words] w (NoneAt 121 w) := by
  have H := Lib.hid h
  clear h
  go_enter Tryz.func20, Tryz.ntmps20
  go_wp2_with (refine wpList_load_row rfl 23 _ rfl w.heap.size rfl 23 (cfgA c) (0, 0) _ (heap_alloc_new w _) Tryz.underlying23 rfl (by kernel_rfl) ?_)
  refine (valid_is H.out _).mono ?_
  rintro e w1 ⟨rfl, hf⟩
  have HF : Hid (Fr [] w w1) := ((Fr.refl [] w).alloc _).trans hf (by simp)
  have HA : Bk w1 w.heap.size 23 (cfgA c) := (Bk.new w _ _).fr hf (by simp)
  clear hf
  have HA := Lib.hid HA
  have HAd := Lib.hid HA.out.drew
  go_upto_region 3 with fail
  go_region_held3 (fun W => W.cell? ⟨w.heap.size, 0, none⟩ = some (.int .i64 (c 0)) ∧ W.cell? ⟨w.heap.size, 1, none⟩ = some (.int .i64 (c 1)) ∧ W.cell? ⟨w.heap.size, 2, none⟩ = some (.int .i64 (c 2)) ∧ W.cell? ⟨w.heap.size, 3, none⟩ = some (.int .i64 (c 3)) ∧ W.cell? ⟨w.heap.size, 4, none⟩ = some (.int .i64 (c 4)) ∧ W.cell? ⟨w.heap.size, 5, none⟩ = some (.int .i64 (c 5)) ∧ W.cell? ⟨w.heap.size, 6, none⟩ = some (.int .i64 (c 6)) ∧ W.cell? ⟨w.heap.size, 7, none⟩ = some (.int .i64 (c 7)) ∧ W.cell? ⟨w.heap.size, 8, none⟩ = some (.int .i64 (c 8)) ∧ W.cell? ⟨w.heap.size, 9, none⟩ = some (.int .i64 (c 9)) ∧ W.cell? ⟨w.heap.size, 10, none⟩ = some (.int .i64 (c 10)) ∧ W.cell? ⟨w.heap.size, 11, none⟩ = some (.int .i64 (c 11)) ∧ W.cell? ⟨w.heap.size, 12, none⟩ = some (.int .i64 (c 12)) ∧ W.cell? ⟨w.heap.size, 13, none⟩ = some (.int .i64 (c 13))) ((first | exact cfg_cells HAd.out | exact cfg_cells (HAd.out.fr (by assumption) (by simp)) | exact cfg_cells ((HAd.out.fr (by assumption) (by simp)).alloc _))) ((first | (go_at_call 23; refine (limit_any c base _).mono ?_; rintro e w2 ⟨rfl, hf2⟩)))
  have hW : Hid (Bk (w2.alloc (.cells (turnC c base (limitOf c base) words 0 (.slice none 0 0) .nilFunc) 100)) w2.heap.size 100 (turnC c base (limitOf c base) words 0 (.slice none 0 0) .nilFunc) ∧
      Bk (w2.alloc (.cells (turnC c base (limitOf c base) words 0 (.slice none 0 0) .nilFunc) 100)) w.heap.size 23 (cfgA c) ∧
      Fr [] w (w2.alloc (.cells (turnC c base (limitOf c base) words 0 (.slice none 0 0) .nilFunc) 100)) ∧ w.heap.size ≤ w2.heap.size) :=
    ⟨Bk.new _ _ _, (HAd.out.fr hf2 (by simp)).alloc _, (HF.out.drew.trans hf2 (by simp)).alloc _, by have := HF.out.size; have h2 := hf2.size; simp at h2; omega⟩
  clear hf2
  generalize hw3 : w2.alloc (.cells (turnC c base (limitOf c base) words 0 (.slice none 0 0) .nilFunc) 100) = w3 at *
  change Exit.then _ _ _ _ (w2.alloc (.cells (turnC c base (limitOf c base) words 0 (.slice none 0 0) .nilFunc) 100))
  rw [hw3]
  clear hw3
  generalize w2.heap.size = g at *
  have d19 : w3.cell? ⟨g, 19, none⟩ = some .nilFunc := hW.out.1.cell 19
  have f19 := hW.out.1.free 19
  go_wp2_with fail
  go_ret2
  exact ⟨rfl, hW.out.2.2.1.setCell (by have := hW.out.2.2.2; simp; omega) _⟩

theorem begin_k5 (c : Nat → Int) (base words : Int) (w : World) (h : validB c = true) (hb : 0 ≤ base) (hw1 : words ≤ 9223372036854775807) :
    Calls Tryz.prog 20 #[.agg (cfgA c), .int .i64 base, .int .i64 5, .int .i64 words] w (BeginOk c base 5 words w) := by
  have H := Lib.hid h
  clear h
  go_enter Tryz.func20, Tryz.ntmps20
  go_wp2_with (refine wpList_load_row rfl 23 _ rfl w.heap.size rfl 23 (cfgA c) (0, 0) _ (heap_alloc_new w _) Tryz.underlying23 rfl (by kernel_rfl) ?_)
  refine (valid_is H.out _).mono ?_
  rintro e w1 ⟨rfl, hf⟩
  have HF : Hid (Fr [] w w1) := ((Fr.refl [] w).alloc _).trans hf (by simp)
  have HA : Bk w1 w.heap.size 23 (cfgA c) := (Bk.new w _ _).fr hf (by simp)
  clear hf
  have HA := Lib.hid HA
  have HAd := Lib.hid HA.out.drew
  go_upto_region 3 with fail
  go_region_held3 (fun W => W.cell? ⟨w.heap.size, 0, none⟩ = some (.int .i64 (c 0)) ∧ W.cell? ⟨w.heap.size, 1, none⟩ = some (.int .i64 (c 1)) ∧ W.cell? ⟨w.heap.size, 2, none⟩ = some (.int .i64 (c 2)) ∧ W.cell? ⟨w.heap.size, 3, none⟩ = some (.int .i64 (c 3)) ∧ W.cell? ⟨w.heap.size, 4, none⟩ = some (.int .i64 (c 4)) ∧ W.cell? ⟨w.heap.size, 5, none⟩ = some (.int .i64 (c 5)) ∧ W.cell? ⟨w.heap.size, 6, none⟩ = some (.int .i64 (c 6)) ∧ W.cell? ⟨w.heap.size, 7, none⟩ = some (.int .i64 (c 7)) ∧ W.cell? ⟨w.heap.size, 8, none⟩ = some (.int .i64 (c 8)) ∧ W.cell? ⟨w.heap.size, 9, none⟩ = some (.int .i64 (c 9)) ∧ W.cell? ⟨w.heap.size, 10, none⟩ = some (.int .i64 (c 10)) ∧ W.cell? ⟨w.heap.size, 11, none⟩ = some (.int .i64 (c 11)) ∧ W.cell? ⟨w.heap.size, 12, none⟩ = some (.int .i64 (c 12)) ∧ W.cell? ⟨w.heap.size, 13, none⟩ = some (.int .i64 (c 13))) ((first | exact cfg_cells HAd.out | exact cfg_cells (HAd.out.fr (by assumption) (by simp)) | exact cfg_cells ((HAd.out.fr (by assumption) (by simp)).alloc _))) ((first | (go_at_call 23; refine (limit_any c base _).mono ?_; rintro e w2 ⟨rfl, hf2⟩)))
  have hW : Hid (Bk (w2.alloc (.cells (turnC c base (limitOf c base) words 0 (.slice none 0 0) .nilFunc) 100)) w2.heap.size 100 (turnC c base (limitOf c base) words 0 (.slice none 0 0) .nilFunc) ∧
      Bk (w2.alloc (.cells (turnC c base (limitOf c base) words 0 (.slice none 0 0) .nilFunc) 100)) w.heap.size 23 (cfgA c) ∧
      Fr [] w (w2.alloc (.cells (turnC c base (limitOf c base) words 0 (.slice none 0 0) .nilFunc) 100)) ∧ w.heap.size ≤ w2.heap.size) :=
    ⟨Bk.new _ _ _, (HAd.out.fr hf2 (by simp)).alloc _, (HF.out.drew.trans hf2 (by simp)).alloc _, by have := HF.out.size; have h2 := hf2.size; simp at h2; omega⟩
  clear hf2
  generalize hw3 : w2.alloc (.cells (turnC c base (limitOf c base) words 0 (.slice none 0 0) .nilFunc) 100) = w3 at *
  change Exit.then _ _ _ _ (w2.alloc (.cells (turnC c base (limitOf c base) words 0 (.slice none 0 0) .nilFunc) 100))
  rw [hw3]
  clear hw3
  generalize w2.heap.size = g at *
  have d19 : w3.cell? ⟨g, 19, none⟩ = some .nilFunc := hW.out.1.cell 19
  have f19 := hW.out.1.free 19
  go_wp2_with fail
  go_ret2
  exact begin_end (ph := .closing) (by simp [phOf]) rfl (by omega) hw1 hW.out.2.2.2 (hW.out.1.put 19 _) (hW.out.2.2.1.setCell (by have := hW.out.2.2.2; simp; omega) _)

theorem begin_neg1 (c : Nat → Int) (base words : Int) (w : World) (h : validB c = true) (hb : base < 0) :
    Calls Tryz.prog 20 #[.agg (cfgA c), .int .i64 base, .int .i64 1, .int .i64 words] w (NoneAt 121 w) := by
  have H := Lib.hid h
  clear h
  go_enter Tryz.func20, Tryz.ntmps20
  go_wp2_with (refine wpList_load_row rfl 23 _ rfl w.heap.size rfl 23 (cfgA c) (0, 0) _ (heap_alloc_new w _) Tryz.underlying23 rfl (by kernel_rfl) ?_)
  refine (valid_is H.out _).mono ?_
  rintro e w1 ⟨rfl, hf⟩
  have HF : Hid (Fr [] w w1) := ((Fr.refl [] w).alloc _).trans hf (by simp)
  have HA : Bk w1 w.heap.size 23 (cfgA c) := (Bk.new w _ _).fr hf (by simp)
  clear hf
  have HA := Lib.hid HA
  have HAd := Lib.hid HA.out.drew
  go_upto_region 3 with fail
  go_region_held3 (fun W => W.cell? ⟨w.heap.size, 0, none⟩ = some (.int .i64 (c 0)) ∧ W.cell? ⟨w.heap.size, 1, none⟩ = some (.int .i64 (c 1)) ∧ W.cell? ⟨w.heap.size, 2, none⟩ = some (.int .i64 (c 2)) ∧ W.cell? ⟨w.heap.size, 3, none⟩ = some (.int .i64 (c 3)) ∧ W.cell? ⟨w.heap.size, 4, none⟩ = some (.int .i64 (c 4)) ∧ W.cell? ⟨w.heap.size, 5, none⟩ = some (.int .i64 (c 5)) ∧ W.cell? ⟨w.heap.size, 6, none⟩ = some (.int .i64 (c 6)) ∧ W.cell? ⟨w.heap.size, 7, none⟩ = some (.int .i64 (c 7)) ∧ W.cell? ⟨w.heap.size, 8, none⟩ = some (.int .i64 (c 8)) ∧ W.cell? ⟨w.heap.size, 9, none⟩ = some (.int .i64 (c 9)) ∧ W.cell? ⟨w.heap.size, 10, none⟩ = some (.int .i64 (c 10)) ∧ W.cell? ⟨w.heap.size, 11, none⟩ = some (.int .i64 (c 11)) ∧ W.cell? ⟨w.heap.size, 12, none⟩ = some (.int .i64 (c 12)) ∧ W.cell? ⟨w.heap.size, 13, none⟩ = some (.int .i64 (c 13))) ((first | exact cfg_cells HAd.out | exact cfg_cells (HAd.out.fr (by assumption) (by simp)) | exact cfg_cells ((HAd.out.fr (by assumption) (by simp)).alloc _))) ((first | (go_at_call 23; refine (limit_any c base _).mono ?_; rintro e w2 ⟨rfl, hf2⟩)))
  have hW : Hid (Bk (w2.alloc (.cells (turnC c base (limitOf c base) words 0 (.slice none 0 0) .nilFunc) 100)) w2.heap.size 100 (turnC c base (limitOf c base) words 0 (.slice none 0 0) .nilFunc) ∧
      Bk (w2.alloc (.cells (turnC c base (limitOf c base) words 0 (.slice none 0 0) .nilFunc) 100)) w.heap.size 23 (cfgA c) ∧
      Fr [] w (w2.alloc (.cells (turnC c base (limitOf c base) words 0 (.slice none 0 0) .nilFunc) 100)) ∧ w.heap.size ≤ w2.heap.size) :=
    ⟨Bk.new _ _ _, (HAd.out.fr hf2 (by simp)).alloc _, (HF.out.drew.trans hf2 (by simp)).alloc _, by have := HF.out.size; have h2 := hf2.size; simp at h2; omega⟩
  clear hf2
  generalize hw3 : w2.alloc (.cells (turnC c base (limitOf c base) words 0 (.slice none 0 0) .nilFunc) 100) = w3 at *
  change Exit.then _ _ _ _ (w2.alloc (.cells (turnC c base (limitOf c base) words 0 (.slice none 0 0) .nilFunc) 100))
  rw [hw3]
  clear hw3
  generalize w2.heap.size = g at *
  have d19 : w3.cell? ⟨g, 19, none⟩ = some .nilFunc := hW.out.1.cell 19
  have f19 := hW.out.1.free 19
  have hne : w.heap.size ≠ g := by have := hW.out.2.1.lt; have h2 := hW.out.2.1.ne hW.out.1 (by decide); exact h2
  have hL : Hid (Bk (w3.setCell ⟨g, 19, none⟩ (.func (.func 60) #[] #[])) w.heap.size 23 (cfgA c)) := hW.out.2.1.far hne _
  have hG : Hid (Bk (w3.setCell ⟨g, 19, none⟩ (.func (.func 60) #[] #[])) g 100 (turnC c base (limitOf c base) words 0 (.slice none 0 0) (.func (.func 60) #[] #[]))) := hW.out.1.put 19 _
  have hFF : Hid (Fr [] w (w3.setCell ⟨g, 19, none⟩ (.func (.func 60) #[] #[]))) := hW.out.2.2.1.setCell (by have := hW.out.2.2.2; simp; omega) _
  go_wp2_with (refine wpList_load_row rfl 23 _ rfl w.heap.size rfl 23 (cfgA c) (0, 0) _ hL.out Tryz.underlying23 rfl (by kernel_rfl) ?_)
  refine (big_is c words _).mono ?_
  rintro e w4 ⟨rfl, hf4⟩
  have hG4 := Lib.hid (hG.out.fr hf4 (by simp))
  have hF4 := Lib.hid (hFF.out.trans hf4 (by simp))
  clear hf4 d19 f19
  have d19 : w4.cell? ⟨g, 19, none⟩ = some (.func (.func 60) #[] #[]) := hG4.out.cell 19
  have f19 := hG4.out.free 19
  rcases Bool.eq_false_or_eq_true (bigB c words) with hbig | hbig
  · rw [hbig]
    have HBig := Lib.hid hbig
    clear hbig
    go_wp2_with fail
    go_ret2
    exact ⟨rfl, hF4.out.setCell (by have := hW.out.2.2.2; simp; omega) _⟩
  · rw [hbig]
    have HBig := Lib.hid hbig
    clear hbig
    go_wp2_with fail
    go_ret2
    exact ⟨rfl, hF4.out⟩

theorem begin_few (c : Nat → Int) (base words : Int) (w : World) (h : validB c = true) (hb : 0 ≤ base) (hw : words < 2) :
    Calls Tryz.prog 20 #[.agg (cfgA c), .int .i64 base, .int .i64 1, .int .i64 words] w (NoneAt 121 w) := by
  have H := Lib.hid h
  clear h
  go_enter Tryz.func20, Tryz.ntmps20
  go_wp2_with (refine wpList_load_row rfl 23 _ rfl w.heap.size rfl 23 (cfgA c) (0, 0) _ (heap_alloc_new w _) Tryz.underlying23 rfl (by kernel_rfl) ?_)
  refine (valid_is H.out _).mono ?_
  rintro e w1 ⟨rfl, hf⟩
  have HF : Hid (Fr [] w w1) := ((Fr.refl [] w).alloc _).trans hf (by simp)
  have HA : Bk w1 w.heap.size 23 (cfgA c) := (Bk.new w _ _).fr hf (by simp)
  clear hf
  have HA := Lib.hid HA
  have HAd := Lib.hid HA.out.drew
  go_upto_region 3 with fail
  go_region_held3 (fun W => W.cell? ⟨w.heap.size, 0, none⟩ = some (.int .i64 (c 0)) ∧ W.cell? ⟨w.heap.size, 1, none⟩ = some (.int .i64 (c 1)) ∧ W.cell? ⟨w.heap.size, 2, none⟩ = some (.int .i64 (c 2)) ∧ W.cell? ⟨w.heap.size, 3, none⟩ = some (.int .i64 (c 3)) ∧ W.cell? ⟨w.heap.size, 4, none⟩ = some (.int .i64 (c 4)) ∧ W.cell? ⟨w.heap.size, 5, none⟩ = some (.int .i64 (c 5)) ∧ W.cell? ⟨w.heap.size, 6, none⟩ = some (.int .i64 (c 6)) ∧ W.cell? ⟨w.heap.size, 7, none⟩ = some (.int .i64 (c 7)) ∧ W.cell? ⟨w.heap.size, 8, none⟩ = some (.int .i64 (c 8)) ∧ W.cell? ⟨w.heap.size, 9, none⟩ = some (.int .i64 (c 9)) ∧ W.cell? ⟨w.heap.size, 10, none⟩ = some (.int .i64 (c 10)) ∧ W.cell? ⟨w.heap.size, 11, none⟩ = some (.int .i64 (c 11)) ∧ W.cell? ⟨w.heap.size, 12, none⟩ = some (.int .i64 (c 12)) ∧ W.cell? ⟨w.heap.size, 13, none⟩ = some (.int .i64 (c 13))) ((first | exact cfg_cells HAd.out | exact cfg_cells (HAd.out.fr (by assumption) (by simp)) | exact cfg_cells ((HAd.out.fr (by assumption) (by simp)).alloc _))) ((first | (go_at_call 23; refine (limit_any c base _).mono ?_; rintro e w2 ⟨rfl, hf2⟩)))
  have hW : Hid (Bk (w2.alloc (.cells (turnC c base (limitOf c base) words 0 (.slice none 0 0) .nilFunc) 100)) w2.heap.size 100 (turnC c base (limitOf c base) words 0 (.slice none 0 0) .nilFunc) ∧
      Bk (w2.alloc (.cells (turnC c base (limitOf c base) words 0 (.slice none 0 0) .nilFunc) 100)) w.heap.size 23 (cfgA c) ∧
      Fr [] w (w2.alloc (.cells (turnC c base (limitOf c base) words 0 (.slice none 0 0) .nilFunc) 100)) ∧ w.heap.size ≤ w2.heap.size) :=
    ⟨Bk.new _ _ _, (HAd.out.fr hf2 (by simp)).alloc _, (HF.out.drew.trans hf2 (by simp)).alloc _, by have := HF.out.size; have h2 := hf2.size; simp at h2; omega⟩
  clear hf2
  generalize hw3 : w2.alloc (.cells (turnC c base (limitOf c base) words 0 (.slice none 0 0) .nilFunc) 100) = w3 at *
  change Exit.then _ _ _ _ (w2.alloc (.cells (turnC c base (limitOf c base) words 0 (.slice none 0 0) .nilFunc) 100))
  rw [hw3]
  clear hw3
  generalize w2.heap.size = g at *
  have d19 : w3.cell? ⟨g, 19, none⟩ = some .nilFunc := hW.out.1.cell 19
  have f19 := hW.out.1.free 19
  have hne : w.heap.size ≠ g := by have := hW.out.2.1.lt; have h2 := hW.out.2.1.ne hW.out.1 (by decide); exact h2
  have hL : Hid (Bk (w3.setCell ⟨g, 19, none⟩ (.func (.func 60) #[] #[])) w.heap.size 23 (cfgA c)) := hW.out.2.1.far hne _
  have hG : Hid (Bk (w3.setCell ⟨g, 19, none⟩ (.func (.func 60) #[] #[])) g 100 (turnC c base (limitOf c base) words 0 (.slice none 0 0) (.func (.func 60) #[] #[]))) := hW.out.1.put 19 _
  have hFF : Hid (Fr [] w (w3.setCell ⟨g, 19, none⟩ (.func (.func 60) #[] #[]))) := hW.out.2.2.1.setCell (by have := hW.out.2.2.2; simp; omega) _
  go_wp2_with (refine wpList_load_row rfl 23 _ rfl w.heap.size rfl 23 (cfgA c) (0, 0) _ hL.out Tryz.underlying23 rfl (by kernel_rfl) ?_)
  refine (big_is c words _).mono ?_
  rintro e w4 ⟨rfl, hf4⟩
  have hG4 := Lib.hid (hG.out.fr hf4 (by simp))
  have hF4 := Lib.hid (hFF.out.trans hf4 (by simp))
  clear hf4 d19 f19
  have d19 : w4.cell? ⟨g, 19, none⟩ = some (.func (.func 60) #[] #[]) := hG4.out.cell 19
  have f19 := hG4.out.free 19
  rcases Bool.eq_false_or_eq_true (bigB c words) with hbig | hbig
  · rw [hbig]
    have HBig := Lib.hid hbig
    clear hbig
    go_wp2_with fail
    go_ret2
    exact ⟨rfl, hF4.out.setCell (by have := hW.out.2.2.2; simp; omega) _⟩
  · rw [hbig]
    have HBig := Lib.hid hbig
    clear hbig
    go_wp2_with fail
    go_ret2
    exact ⟨rfl, hF4.out⟩

theorem begin_k1 (c : Nat → Int) (base words : Int) (w : World) (h : validB c = true) (hb : 0 ≤ base) (hw : 2 ≤ words) (hw1 : words ≤ 9223372036854775807) :
    Calls Tryz.prog 20 #[.agg (cfgA c), .int .i64 base, .int .i64 1, .int .i64 words] w (BeginOk c base 1 words w) := by
  have H := Lib.hid h
  clear h
  go_enter Tryz.func20, Tryz.ntmps20
  go_wp2_with (refine wpList_load_row rfl 23 _ rfl w.heap.size rfl 23 (cfgA c) (0, 0) _ (heap_alloc_new w _) Tryz.underlying23 rfl (by kernel_rfl) ?_)
  refine (valid_is H.out _).mono ?_
  rintro e w1 ⟨rfl, hf⟩
  have HF : Hid (Fr [] w w1) := ((Fr.refl [] w).alloc _).trans hf (by simp)
  have HA : Bk w1 w.heap.size 23 (cfgA c) := (Bk.new w _ _).fr hf (by simp)
  clear hf
  have HA := Lib.hid HA
  have HAd := Lib.hid HA.out.drew
  go_upto_region 3 with fail
  go_region_held3 (fun W => W.cell? ⟨w.heap.size, 0, none⟩ = some (.int .i64 (c 0)) ∧ W.cell? ⟨w.heap.size, 1, none⟩ = some (.int .i64 (c 1)) ∧ W.cell? ⟨w.heap.size, 2, none⟩ = some (.int .i64 (c 2)) ∧ W.cell? ⟨w.heap.size, 3, none⟩ = some (.int .i64 (c 3)) ∧ W.cell? ⟨w.heap.size, 4, none⟩ = some (.int .i64 (c 4)) ∧ W.cell? ⟨w.heap.size, 5, none⟩ = some (.int .i64 (c 5)) ∧ W.cell? ⟨w.heap.size, 6, none⟩ = some (.int .i64 (c 6)) ∧ W.cell? ⟨w.heap.size, 7, none⟩ = some (.int .i64 (c 7)) ∧ W.cell? ⟨w.heap.size, 8, none⟩ = some (.int .i64 (c 8)) ∧ W.cell? ⟨w.heap.size, 9, none⟩ = some (.int .i64 (c 9)) ∧ W.cell? ⟨w.heap.size, 10, none⟩ = some (.int .i64 (c 10)) ∧ W.cell? ⟨w.heap.size, 11, none⟩ = some (.int .i64 (c 11)) ∧ W.cell? ⟨w.heap.size, 12, none⟩ = some (.int .i64 (c 12)) ∧ W.cell? ⟨w.heap.size, 13, none⟩ = some (.int .i64 (c 13))) ((first | exact cfg_cells HAd.out | exact cfg_cells (HAd.out.fr (by assumption) (by simp)) | exact cfg_cells ((HAd.out.fr (by assumption) (by simp)).alloc _))) ((first | (go_at_call 23; refine (limit_any c base _).mono ?_; rintro e w2 ⟨rfl, hf2⟩)))
  have hW : Hid (Bk (w2.alloc (.cells (turnC c base (limitOf c base) words 0 (.slice none 0 0) .nilFunc) 100)) w2.heap.size 100 (turnC c base (limitOf c base) words 0 (.slice none 0 0) .nilFunc) ∧
      Bk (w2.alloc (.cells (turnC c base (limitOf c base) words 0 (.slice none 0 0) .nilFunc) 100)) w.heap.size 23 (cfgA c) ∧
      Fr [] w (w2.alloc (.cells (turnC c base (limitOf c base) words 0 (.slice none 0 0) .nilFunc) 100)) ∧ w.heap.size ≤ w2.heap.size) :=
    ⟨Bk.new _ _ _, (HAd.out.fr hf2 (by simp)).alloc _, (HF.out.drew.trans hf2 (by simp)).alloc _, by have := HF.out.size; have h2 := hf2.size; simp at h2; omega⟩
  clear hf2
  generalize hw3 : w2.alloc (.cells (turnC c base (limitOf c base) words 0 (.slice none 0 0) .nilFunc) 100) = w3 at *
  change Exit.then _ _ _ _ (w2.alloc (.cells (turnC c base (limitOf c base) words 0 (.slice none 0 0) .nilFunc) 100))
  rw [hw3]
  clear hw3
  generalize w2.heap.size = g at *
  have d19 : w3.cell? ⟨g, 19, none⟩ = some .nilFunc := hW.out.1.cell 19
  have f19 := hW.out.1.free 19
  have hne : w.heap.size ≠ g := by have := hW.out.2.1.lt; have h2 := hW.out.2.1.ne hW.out.1 (by decide); exact h2
  have hL : Hid (Bk (w3.setCell ⟨g, 19, none⟩ (.func (.func 60) #[] #[])) w.heap.size 23 (cfgA c)) := hW.out.2.1.far hne _
  have hG : Hid (Bk (w3.setCell ⟨g, 19, none⟩ (.func (.func 60) #[] #[])) g 100 (turnC c base (limitOf c base) words 0 (.slice none 0 0) (.func (.func 60) #[] #[]))) := hW.out.1.put 19 _
  have hFF : Hid (Fr [] w (w3.setCell ⟨g, 19, none⟩ (.func (.func 60) #[] #[]))) := hW.out.2.2.1.setCell (by have := hW.out.2.2.2; simp; omega) _
  go_wp2_with (refine wpList_load_row rfl 23 _ rfl w.heap.size rfl 23 (cfgA c) (0, 0) _ hL.out Tryz.underlying23 rfl (by kernel_rfl) ?_)
  refine (big_is c words _).mono ?_
  rintro e w4 ⟨rfl, hf4⟩
  have hG4 := Lib.hid (hG.out.fr hf4 (by simp))
  have hF4 := Lib.hid (hFF.out.trans hf4 (by simp))
  clear hf4 d19 f19
  have d19 : w4.cell? ⟨g, 19, none⟩ = some (.func (.func 60) #[] #[]) := hG4.out.cell 19
  have f19 := hG4.out.free 19
  rcases Bool.eq_false_or_eq_true (bigB c words) with hbig | hbig
  · rw [hbig]
    have HBig := Lib.hid hbig
    clear hbig
    go_wp2_with fail
    go_ret2
    exact begin_end (ph := .big) (by simp [phOf, HBig.out]) rfl (by omega) hw1 hW.out.2.2.2 (hG4.out.put 19 _) (hF4.out.setCell (by have := hW.out.2.2.2; simp; omega) _)
  · rw [hbig]
    have HBig := Lib.hid hbig
    clear hbig
    go_wp2_with fail
    go_ret2
    exact begin_end (ph := .small) (by simp [phOf, HBig.out]) rfl (by omega) hw1 hW.out.2.2.2 hG4.out (hF4.out)
end Go.Proofs.YtdcppdgnekhcgaaGreatDoor
