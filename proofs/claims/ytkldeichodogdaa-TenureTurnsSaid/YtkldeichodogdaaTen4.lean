/-
  What begin comes to: both there, alike, or both nil; and the first statement's walk.
-/
import Derived.Test.YtkldeichodogdaaTen3
namespace Go.Proofs.Ytkldeichodogdaa
open Go.RowKit Ten

def BeginNo (w : World) (e : Ending) (w' : World) : Prop := e = .returned (.tuple #[.pointer none, .pointer none, .bool true]) ∧ w = w'
def BeginOk (wanted most : Int) (w : World) (e : Ending) (w' : World) : Prop :=
  ∃ g h b, e = .returned (.tuple #[.pointer (some ⟨g, 0, none⟩), .pointer (some ⟨h, 0, none⟩), .bool true]) ∧ w.heap.size ≤ g ∧ w.heap.size ≤ h ∧ w.heap.size ≤ b ∧
    Bk w' g 49 (tcells wanted most (past0 most) 1) ∧ RIs w' h b wanted most [most] ∧ Fr [] w w'

theorem begin_no (s t m : Int) (w : World) (h : s < 1 ∨ 65536 < s ∨ t < 1 ∨ 100 < t ∨ m < 1 ∨ 15 < m) :
    Calls Try.prog 8 #[.int .i64 s, .int .i64 t, .int .i64 m] w (BeginNo w) := by
  have H := Lib.hid h
  clear h
  go_enter Try.func8, Try.ntmps8
  go_wp2_with fail
  refine (new_no _ _ _ _ H.out).mono ?_
  rintro e w1 ⟨rfl, rfl⟩
  go_wp2_with fail
  refine (rnew_no _ _ _ _ H.out).mono ?_
  rintro e w1 ⟨rfl, rfl⟩
  go_wp2_with fail
  refine (num_any _ _).mono ?_
  rintro e w1 ⟨rfl, rfl⟩
  go_wp2_with fail
  go_ret3
  exact ⟨rfl, rfl⟩

theorem begin_ok (s t m : Int) (w : World) (h1 : 1 ≤ s) (h2 : s ≤ 65536) (h3 : 1 ≤ t) (h4 : t ≤ 100) (h5 : 1 ≤ m) (h6 : m ≤ 15) :
    Calls Try.prog 8 #[.int .i64 s, .int .i64 t, .int .i64 m] w (BeginOk (s * t / 100) m w) := by
  go_enter Try.func8, Try.ntmps8
  go_wp2_with fail
  refine (new_ok _ _ _ _ h1 h2 h3 h4 h5 h6).mono ?_
  rintro e w1 ⟨g, rfl, hg, hb, hf⟩
  have HB := Lib.hid hb
  have HF := Lib.hid hf
  clear hb hf
  go_wp2_with fail
  refine (rnew_ok _ _ _ _ h1 h2 h3 h4 h5 h6).mono ?_
  rintro e w2 ⟨h, b, rfl, hh, hbb, hr, hf2⟩
  have hle1 := HF.out.size
  have HB2 := Lib.hid (HB.out.fr hf2 (by simp))
  have HR := Lib.hid hr
  have HF2 := Lib.hid (HF.out.trans hf2 (by simp))
  clear hr hf2
  go_wp2_with fail
  refine (num_any _ _).mono ?_
  rintro e w3 ⟨rfl, rfl⟩
  go_wp2_with fail
  refine (threshold_any _ _ _ _ _ _ HB2.out).mono ?_
  rintro e w3 ⟨rfl, rfl⟩
  go_wp2_with fail
  refine (rthreshold_any _ _ _ _ [] m _ HR.out).mono ?_
  rintro e w3 ⟨rfl, hf3⟩
  have HB3 := Lib.hid (HB2.out.fr hf3 (by simp))
  have HR3 := Lib.hid (HR.out.fr hf3 (by simp) (by simp))
  have HF3 := Lib.hid (HF2.out.trans hf3 (by simp))
  clear hf3
  go_wp2_with fail
  go_ret3
  refine ⟨g, h, b, ?_, hg, by omega, by omega, HB3.out, HR3.out, HF3.out⟩
  simp [past0]

theorem news (s t m : Int) (w : World) :
    Calls Try.prog 3 #[.int .i64 s, .int .i64 t, .int .i64 m] w fun e w' => e = .returned (.bool true) ∧ Fr [] w w' := by
  by_cases h : 1 ≤ s ∧ s ≤ 65536 ∧ 1 ≤ t ∧ t ≤ 100 ∧ 1 ≤ m ∧ m ≤ 15
  · obtain ⟨h1, h2, h3, h4, h5, h6⟩ := h
    go_enter Try.func3, Try.ntmps3
    go_wp2_with fail
    refine (begin_ok _ _ _ _ h1 h2 h3 h4 h5 h6).mono ?_
    rintro e w1 ⟨g, h, b, rfl, _, _, _, hb, hr, hf⟩
    have HF := Lib.hid hf
    clear hb hr hf
    go_wp2_with fail
    go_ret
    exact ⟨rfl, HF.out⟩
  · have H : Hid (s < 1 ∨ 65536 < s ∨ t < 1 ∨ 100 < t ∨ m < 1 ∨ 15 < m) := by unfold Hid; omega
    clear h
    go_enter Try.func3, Try.ntmps3
    go_wp2_with fail
    refine (begin_no _ _ _ _ H.out).mono ?_
    rintro e w1 ⟨rfl, rfl⟩
    go_wp2_with fail
    go_ret
    exact ⟨rfl, Fr.refl _ _⟩
end Go.Proofs.Ytkldeichodogdaa
