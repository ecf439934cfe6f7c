/-
  Begin of the document's turn; both Cycles.
-/
import Derived.Test.YtdcppdgnekhcgaaGreatDoorPol11
import Derived.Deep.RegionHeld3
namespace Go.Proofs.YtdcppdgnekhcgaaGreatDoor
open Go.RowKit Pol
set_option maxRecDepth 100000
set_option linter.unusedVariables false

/-- The error of a turn that can't be. -/
def beginErr (c : Nat → Int) (base kind words : Int) : Int :=
  if validB c = false then 30 else if kind < 1 ∨ 5 < kind then 120 else if base < 0 ∨ (kind = 1 ∧ words < 2) then 121 else 0

theorem begin_err (c : Nat → Int) (base kind words : Int) (w : World) (h : beginErr c base kind words ≠ 0) :
    Calls Tryz.prog 20 #[.agg (cfgA c), .int .i64 base, .int .i64 kind, .int .i64 words] w (NoneAt (beginErr c base kind words) w) := by
  unfold beginErr at *
  by_cases h1 : validB c = false
  · rw [if_pos h1]
    exact begin_bad c base kind words w h1
  rw [if_neg h1] at h ⊢
  have h1' : validB c = true := by simpa using h1
  by_cases h2 : kind < 1 ∨ 5 < kind
  · rw [if_pos h2]
    exact begin_kind c base kind words w h1' h2
  rw [if_neg h2] at h ⊢
  by_cases h3 : base < 0 ∨ (kind = 1 ∧ words < 2)
  · rw [if_pos h3]
    by_cases hb : base < 0
    · have hcase : kind = 1 ∨ kind = 2 ∨ kind = 3 ∨ kind = 4 ∨ kind = 5 := by omega
      rcases hcase with rfl | rfl | rfl | rfl | rfl
      · exact begin_neg1 c base words w h1' hb
      · exact begin_neg2 c base words w h1' hb
      · exact begin_neg3 c base words w h1' hb
      · exact begin_neg4 c base words w h1' hb
      · exact begin_neg5 c base words w h1' hb
    · obtain ⟨rfl, h4⟩ : kind = 1 ∧ words < 2 := by omega
      exact begin_few c base words w h1' (by omega) h4
  · rw [if_neg h3] at h
    exact absurd rfl h

theorem begin_none {c : Nat → Int} {base kind words : Int} (h : beginErr c base kind words = 0) : validB c = true ∧ (1 ≤ kind ∧ kind ≤ 5) ∧ 0 ≤ base ∧ (kind = 1 → 2 ≤ words) := by
  unfold beginErr at h
  by_cases h1 : validB c = false
  · rw [if_pos h1] at h; omega
  rw [if_neg h1] at h
  by_cases h2 : kind < 1 ∨ 5 < kind
  · rw [if_pos h2] at h; omega
  rw [if_neg h2] at h
  by_cases h3 : base < 0 ∨ (kind = 1 ∧ words < 2)
  · rw [if_pos h3] at h; omega
  · exact ⟨by simpa using h1, by omega, by omega, by omega⟩

theorem begin_ok (c : Nat → Int) (base kind words : Int) (w : World) (h : beginErr c base kind words = 0) (hw1 : words ≤ 9223372036854775807) :
    Calls Tryz.prog 20 #[.agg (cfgA c), .int .i64 base, .int .i64 kind, .int .i64 words] w (BeginOk c base kind words w) := by
  obtain ⟨h1, h2, h3, h4⟩ := begin_none h
  have hcase : kind = 1 ∨ kind = 2 ∨ kind = 3 ∨ kind = 4 ∨ kind = 5 := by omega
  rcases hcase with rfl | rfl | rfl | rfl | rfl
  · exact begin_k1 c base words w h1 h3 (h4 rfl) hw1
  · exact begin_k2 c base words w h1 h3 hw1
  · exact begin_k3 c base words w h1 h3 hw1
  · exact begin_k4 c base words w h1 h3 hw1
  · exact begin_k5 c base words w h1 h3 hw1

theorem rbegin_bad (c : Nat → Int) (base kind words : Int) (w : World) (h : validB c = false) :
    Calls Tryz.prog 24 #[.agg (cfgA c), .int .i64 base, .int .i64 kind, .int .i64 words] w (NoneAt 30 w) := by
  have H := Lib.hid h
  clear h
  go_enter Tryz.func24, Tryz.ntmps24
  go_wp2_with (refine wpList_load_row rfl 23 _ rfl w.heap.size rfl 23 (cfgA c) (0, 0) _ (heap_alloc_new w _) Tryz.underlying23 rfl (by kernel_rfl) ?_)
  refine (rvalid_is H.out _).mono ?_
  rintro e w1 ⟨rfl, hf⟩
  have HF : Hid (Fr [] w w1) := ((Fr.refl [] w).alloc _).trans hf (by simp)
  have HA : Bk w1 w.heap.size 23 (cfgA c) := (Bk.new w _ _).fr hf (by simp)
  clear hf
  have HA := Lib.hid HA
  go_wp2_with fail
  go_ret2
  exact ⟨rfl, HF.out⟩

theorem rbegin_kind_a (c : Nat → Int) (base kind words : Int) (w : World) (h : validB c = true) (hk : kind < 1) :
    Calls Tryz.prog 24 #[.agg (cfgA c), .int .i64 base, .int .i64 kind, .int .i64 words] w (NoneAt 120 w) := by
  have H := Lib.hid h
  clear h
  go_enter Tryz.func24, Tryz.ntmps24
  go_wp2_with (refine wpList_load_row rfl 23 _ rfl w.heap.size rfl 23 (cfgA c) (0, 0) _ (heap_alloc_new w _) Tryz.underlying23 rfl (by kernel_rfl) ?_)
  refine (rvalid_is H.out _).mono ?_
  rintro e w1 ⟨rfl, hf⟩
  have HF : Hid (Fr [] w w1) := ((Fr.refl [] w).alloc _).trans hf (by simp)
  have HA : Bk w1 w.heap.size 23 (cfgA c) := (Bk.new w _ _).fr hf (by simp)
  clear hf
  have HA := Lib.hid HA
  go_wp2_with fail
  go_ret2
  exact ⟨rfl, HF.out⟩

theorem rbegin_kind_b (c : Nat → Int) (base kind words : Int) (w : World) (h : validB c = true) (hk0 : ¬ kind < 1) (hk : 5 < kind) :
    Calls Tryz.prog 24 #[.agg (cfgA c), .int .i64 base, .int .i64 kind, .int .i64 words] w (NoneAt 120 w) := by
  have H := Lib.hid h
  clear h
  have hd : decide (kind < 1) = false := by simpa using hk0
  clear hk0
  go_enter Tryz.func24, Tryz.ntmps24
  go_wp2_with (refine wpList_load_row rfl 23 _ rfl w.heap.size rfl 23 (cfgA c) (0, 0) _ (heap_alloc_new w _) Tryz.underlying23 rfl (by kernel_rfl) ?_)
  refine (rvalid_is H.out _).mono ?_
  rintro e w1 ⟨rfl, hf⟩
  have HF : Hid (Fr [] w w1) := ((Fr.refl [] w).alloc _).trans hf (by simp)
  have HA : Bk w1 w.heap.size 23 (cfgA c) := (Bk.new w _ _).fr hf (by simp)
  clear hf
  have HA := Lib.hid HA
  go_wp2_with fail
  go_ret2
  exact ⟨rfl, HF.out⟩

theorem rbegin_size_a (c : Nat → Int) (base kind words : Int) (w : World) (h : validB c = true) (hk : 1 ≤ kind ∧ kind ≤ 5) (hb : base < 0) :
    Calls Tryz.prog 24 #[.agg (cfgA c), .int .i64 base, .int .i64 kind, .int .i64 words] w (NoneAt 121 w) := by
  have H := Lib.hid h
  clear h
  have hd : decide (kind < 1) = false := by simp; omega
  have hd' : decide (5 < kind) = false := by simp; omega
  clear hk
  go_enter Tryz.func24, Tryz.ntmps24
  go_wp2_with (refine wpList_load_row rfl 23 _ rfl w.heap.size rfl 23 (cfgA c) (0, 0) _ (heap_alloc_new w _) Tryz.underlying23 rfl (by kernel_rfl) ?_)
  refine (rvalid_is H.out _).mono ?_
  rintro e w1 ⟨rfl, hf⟩
  have HF : Hid (Fr [] w w1) := ((Fr.refl [] w).alloc _).trans hf (by simp)
  have HA : Bk w1 w.heap.size 23 (cfgA c) := (Bk.new w _ _).fr hf (by simp)
  clear hf
  have HA := Lib.hid HA
  go_wp2_with fail
  go_ret2
  exact ⟨rfl, HF.out⟩

theorem rbegin_size_b (c : Nat → Int) (base kind words : Int) (w : World) (h : validB c = true) (hk : 1 ≤ kind ∧ kind ≤ 5) (hb : 0 ≤ base) (h1 : kind = 1) (h2 : words < 2) :
    Calls Tryz.prog 24 #[.agg (cfgA c), .int .i64 base, .int .i64 kind, .int .i64 words] w (NoneAt 121 w) := by
  have H := Lib.hid h
  clear h
  have hd2 : decide (base < 0) = false := by simpa using hb
  have hd3 : (kind == 1) = true := by simpa using h1
  clear hb h1
  have hd : decide (kind < 1) = false := by simp; omega
  have hd' : decide (5 < kind) = false := by simp; omega
  clear hk
  go_enter Tryz.func24, Tryz.ntmps24
  go_wp2_with (refine wpList_load_row rfl 23 _ rfl w.heap.size rfl 23 (cfgA c) (0, 0) _ (heap_alloc_new w _) Tryz.underlying23 rfl (by kernel_rfl) ?_)
  refine (rvalid_is H.out _).mono ?_
  rintro e w1 ⟨rfl, hf⟩
  have HF : Hid (Fr [] w w1) := ((Fr.refl [] w).alloc _).trans hf (by simp)
  have HA : Bk w1 w.heap.size 23 (cfgA c) := (Bk.new w _ _).fr hf (by simp)
  clear hf
  have HA := Lib.hid HA
  go_wp2_with fail
  go_ret2
  exact ⟨rfl, HF.out⟩

def RBeginOk (c : Nat → Int) (base kind words : Int) (w : World) (e : Ending) (w' : World) : Prop :=
  ∃ g, e = .returned (.tuple #[.pointer (some ⟨g, 0, none⟩), .int .i64 0]) ∧ w.heap.size ≤ g ∧ RT w' g c kind words base (limitOf c base) (st0 (phOf c kind words)) [] false false (.slice none 0 0) ∧ Fr [] w w'

theorem rbegin_end {c : Nat → Int} {base kind words : Int} {w w3 : World} {g : Nat} (hk : 1 ≤ kind ∧ kind ≤ 5) (hw0 : kind = 1 → 2 ≤ words) (hw1 : words ≤ 9223372036854775807) (hg : w.heap.size ≤ g)
    (hB : Bk w3 g 104 (rturnC c kind words base (limitOf c base) (.slice none 0 0) false false)) (hF : Fr [] w w3) :
    RBeginOk c base kind words w (.returned (.tuple #[.pointer (some ⟨g, 0, none⟩), .int .i64 0])) w3 := by
  refine ⟨g, rfl, hg, ⟨⟨hB, by simpa [ints] using World.ownsRow_nil w3 0 3 1⟩, ok0 _, by simp [rph, st0], by simp, hk, (limitOf_bound c base).1, (limitOf_bound c base).2, fun h => ?_, hw1⟩, hF⟩
  refine hw0 ?_
  unfold phOf st0 at h
  simp only at h
  by_cases hk : kind = 1
  · exact hk
  · rw [if_neg hk] at h
    repeat' split at h
    all_goals cases h


theorem rbegin_ok_a (c : Nat → Int) (base words : Int) (w : World) (h : validB c = true) (hb : 0 ≤ base) (hw0 : 2 ≤ words) (hw1 : words ≤ 9223372036854775807) :
    Calls Tryz.prog 24 #[.agg (cfgA c), .int .i64 base, .int .i64 1, .int .i64 words] w (RBeginOk c base 1 words w) := by
  have H := Lib.hid h
  clear h
  have hd2 : decide (base < 0) = false := by simpa using hb
  have hd3 : decide (words < 2) = false := by simpa using hw0
  go_enter Tryz.func24, Tryz.ntmps24
  go_wp2_with (refine wpList_load_row rfl 23 _ rfl w.heap.size rfl 23 (cfgA c) (0, 0) _ (heap_alloc_new w _) Tryz.underlying23 rfl (by kernel_rfl) ?_)
  refine (rvalid_is H.out _).mono ?_
  rintro e w1 ⟨rfl, hf⟩
  have HF : Hid (Fr [] w w1) := ((Fr.refl [] w).alloc _).trans hf (by simp)
  have HA : Bk w1 w.heap.size 23 (cfgA c) := (Bk.new w _ _).fr hf (by simp)
  clear hf
  have HA := Lib.hid HA
  have HAd := Lib.hid HA.out.drew
  go_upto_region 7 with fail
  go_region_held3 (fun W => W.cell? ⟨w.heap.size, 0, none⟩ = some (.int .i64 (c 0)) ∧ W.cell? ⟨w.heap.size, 1, none⟩ = some (.int .i64 (c 1)) ∧ W.cell? ⟨w.heap.size, 2, none⟩ = some (.int .i64 (c 2)) ∧ W.cell? ⟨w.heap.size, 3, none⟩ = some (.int .i64 (c 3)) ∧ W.cell? ⟨w.heap.size, 4, none⟩ = some (.int .i64 (c 4)) ∧ W.cell? ⟨w.heap.size, 5, none⟩ = some (.int .i64 (c 5)) ∧ W.cell? ⟨w.heap.size, 6, none⟩ = some (.int .i64 (c 6)) ∧ W.cell? ⟨w.heap.size, 7, none⟩ = some (.int .i64 (c 7)) ∧ W.cell? ⟨w.heap.size, 8, none⟩ = some (.int .i64 (c 8)) ∧ W.cell? ⟨w.heap.size, 9, none⟩ = some (.int .i64 (c 9)) ∧ W.cell? ⟨w.heap.size, 10, none⟩ = some (.int .i64 (c 10)) ∧ W.cell? ⟨w.heap.size, 11, none⟩ = some (.int .i64 (c 11)) ∧ W.cell? ⟨w.heap.size, 12, none⟩ = some (.int .i64 (c 12)) ∧ W.cell? ⟨w.heap.size, 13, none⟩ = some (.int .i64 (c 13))) ((first | exact cfg_cells HAd.out | exact cfg_cells (HAd.out.fr (by assumption) (by simp)) | exact cfg_cells ((HAd.out.fr (by assumption) (by simp)).alloc _))) ((first | (go_at_call 70; refine (rlimit_any c base _).mono ?_; rintro e w2 ⟨rfl, hf2⟩)))
  have hW : Hid (Bk (w2.alloc (.cells (rturnC c 1 words base (limitOf c base) (.slice none 0 0) false false) 104)) w2.heap.size 104 (rturnC c 1 words base (limitOf c base) (.slice none 0 0) false false) ∧
      Fr [] w (w2.alloc (.cells (rturnC c 1 words base (limitOf c base) (.slice none 0 0) false false) 104)) ∧ w.heap.size ≤ w2.heap.size) :=
    ⟨Bk.new _ _ _, (HF.out.drew.trans hf2 (by simp)).alloc _, by have := HF.out.size; have h2 := hf2.size; simp at h2; omega⟩
  clear hf2
  generalize hw3 : w2.alloc (.cells (rturnC c 1 words base (limitOf c base) (.slice none 0 0) false false) 104) = w3 at *
  change Exit.then _ _ _ _ (w2.alloc (.cells (rturnC c 1 words base (limitOf c base) (.slice none 0 0) false false) 104))
  rw [hw3]
  clear hw3
  generalize w2.heap.size = g at *
  go_wp2_with fail
  go_ret2
  exact rbegin_end (by omega) (fun _ => hw0) hw1 hW.out.2.2 hW.out.1 hW.out.2.1

theorem rbegin_ok_b (c : Nat → Int) (base kind words : Int) (w : World) (h : validB c = true) (hk : 1 ≤ kind ∧ kind ≤ 5) (hb : 0 ≤ base) (hk1 : kind ≠ 1) (hw1 : words ≤ 9223372036854775807) :
    Calls Tryz.prog 24 #[.agg (cfgA c), .int .i64 base, .int .i64 kind, .int .i64 words] w (RBeginOk c base kind words w) := by
  have H := Lib.hid h
  clear h
  have hd2 : decide (base < 0) = false := by simpa using hb
  have hd3 : (kind == 1) = false := by simpa using hk1
  have hd : decide (kind < 1) = false := by simp; omega
  have hd' : decide (5 < kind) = false := by simp; omega
  go_enter Tryz.func24, Tryz.ntmps24
  go_wp2_with (refine wpList_load_row rfl 23 _ rfl w.heap.size rfl 23 (cfgA c) (0, 0) _ (heap_alloc_new w _) Tryz.underlying23 rfl (by kernel_rfl) ?_)
  refine (rvalid_is H.out _).mono ?_
  rintro e w1 ⟨rfl, hf⟩
  have HF : Hid (Fr [] w w1) := ((Fr.refl [] w).alloc _).trans hf (by simp)
  have HA : Bk w1 w.heap.size 23 (cfgA c) := (Bk.new w _ _).fr hf (by simp)
  clear hf
  have HA := Lib.hid HA
  have HAd := Lib.hid HA.out.drew
  go_upto_region 7 with fail
  go_region_held3 (fun W => W.cell? ⟨w.heap.size, 0, none⟩ = some (.int .i64 (c 0)) ∧ W.cell? ⟨w.heap.size, 1, none⟩ = some (.int .i64 (c 1)) ∧ W.cell? ⟨w.heap.size, 2, none⟩ = some (.int .i64 (c 2)) ∧ W.cell? ⟨w.heap.size, 3, none⟩ = some (.int .i64 (c 3)) ∧ W.cell? ⟨w.heap.size, 4, none⟩ = some (.int .i64 (c 4)) ∧ W.cell? ⟨w.heap.size, 5, none⟩ = some (.int .i64 (c 5)) ∧ W.cell? ⟨w.heap.size, 6, none⟩ = some (.int .i64 (c 6)) ∧ W.cell? ⟨w.heap.size, 7, none⟩ = some (.int .i64 (c 7)) ∧ W.cell? ⟨w.heap.size, 8, none⟩ = some (.int .i64 (c 8)) ∧ W.cell? ⟨w.heap.size, 9, none⟩ = some (.int .i64 (c 9)) ∧ W.cell? ⟨w.heap.size, 10, none⟩ = some (.int .i64 (c 10)) ∧ W.cell? ⟨w.heap.size, 11, none⟩ = some (.int .i64 (c 11)) ∧ W.cell? ⟨w.heap.size, 12, none⟩ = some (.int .i64 (c 12)) ∧ W.cell? ⟨w.heap.size, 13, none⟩ = some (.int .i64 (c 13))) ((first | exact cfg_cells HAd.out | exact cfg_cells (HAd.out.fr (by assumption) (by simp)) | exact cfg_cells ((HAd.out.fr (by assumption) (by simp)).alloc _))) ((first | (go_at_call 70; refine (rlimit_any c base _).mono ?_; rintro e w2 ⟨rfl, hf2⟩)))
  have hW : Hid (Bk (w2.alloc (.cells (rturnC c kind words base (limitOf c base) (.slice none 0 0) false false) 104)) w2.heap.size 104 (rturnC c kind words base (limitOf c base) (.slice none 0 0) false false) ∧
      Fr [] w (w2.alloc (.cells (rturnC c kind words base (limitOf c base) (.slice none 0 0) false false) 104)) ∧ w.heap.size ≤ w2.heap.size) :=
    ⟨Bk.new _ _ _, (HF.out.drew.trans hf2 (by simp)).alloc _, by have := HF.out.size; have h2 := hf2.size; simp at h2; omega⟩
  clear hf2
  generalize hw3 : w2.alloc (.cells (rturnC c kind words base (limitOf c base) (.slice none 0 0) false false) 104) = w3 at *
  change Exit.then _ _ _ _ (w2.alloc (.cells (rturnC c kind words base (limitOf c base) (.slice none 0 0) false false) 104))
  rw [hw3]
  clear hw3
  generalize w2.heap.size = g at *
  go_wp2_with fail
  go_ret2
  exact rbegin_end hk (fun h => absurd h hk1) hw1 hW.out.2.2 hW.out.1 hW.out.2.1

theorem rbegin_err (c : Nat → Int) (base kind words : Int) (w : World) (h : beginErr c base kind words ≠ 0) :
    Calls Tryz.prog 24 #[.agg (cfgA c), .int .i64 base, .int .i64 kind, .int .i64 words] w (NoneAt (beginErr c base kind words) w) := by
  unfold beginErr at *
  by_cases h1 : validB c = false
  · rw [if_pos h1]
    exact rbegin_bad c base kind words w h1
  rw [if_neg h1] at h ⊢
  have h1' : validB c = true := by simpa using h1
  by_cases h2 : kind < 1 ∨ 5 < kind
  · rw [if_pos h2]
    by_cases hk : kind < 1
    · exact rbegin_kind_a c base kind words w h1' hk
    · exact rbegin_kind_b c base kind words w h1' hk (by omega)
  rw [if_neg h2] at h ⊢
  by_cases h3 : base < 0 ∨ (kind = 1 ∧ words < 2)
  · rw [if_pos h3]
    by_cases hb : base < 0
    · exact rbegin_size_a c base kind words w h1' (by omega) hb
    · exact rbegin_size_b c base kind words w h1' (by omega) (by omega) (by omega) (by omega)
  · rw [if_neg h3] at h
    exact absurd rfl h

theorem rbegin_ok (c : Nat → Int) (base kind words : Int) (w : World) (h : beginErr c base kind words = 0) (hw1 : words ≤ 9223372036854775807) :
    Calls Tryz.prog 24 #[.agg (cfgA c), .int .i64 base, .int .i64 kind, .int .i64 words] w (RBeginOk c base kind words w) := by
  obtain ⟨h1, h2, h3, h4⟩ := begin_none h
  by_cases hk : kind = 1
  · subst hk
    exact rbegin_ok_a c base words w h1 h3 (h4 rfl) hw1
  · exact rbegin_ok_b c base kind words w h1 h2 h3 hk hw1
end Go.Proofs.YtdcppdgnekhcgaaGreatDoor
