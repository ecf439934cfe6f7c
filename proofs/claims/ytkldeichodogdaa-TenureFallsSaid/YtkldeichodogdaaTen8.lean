/-
  TenureFalls.
-/
import Derived.Test.YtkldeichodogdaaTen6
namespace Go.Proofs.Ytkldeichodogdaa
open Go.RowKit Ten

theorem arr16_set (f : Nat → Int) {a : Nat} (h : a < 16) (v : Int) : (arr16 f).setIfInBounds a (.int .i64 v) = arr16 (upd f a v) := by
  have hk : a = 0 ∨ a = 1 ∨ a = 2 ∨ a = 3 ∨ a = 4 ∨ a = 5 ∨ a = 6 ∨ a = 7 ∨ a = 8 ∨ a = 9 ∨ a = 10 ∨ a = 11 ∨ a = 12 ∨ a = 13 ∨ a = 14 ∨ a = 15 := by omega
  clear h
  rcases hk with h | h | h | h | h | h | h | h | h | h | h | h | h | h | h | h <;> subst h <;> rfl

theorem falls_out (s t m : Int) (f : Nat → Int) (age more : Int) (w : World) (h : age < 0 ∨ 15 < age ∨ more < 0 ∨ 65536 < more) :
    Calls Try.prog 6 #[.int .i64 s, .int .i64 t, .int .i64 m, .agg (arr16 f), .int .i64 age, .int .i64 more] w fun e w' => e = .returned (.bool true) ∧ Fr [] w w' := by
  have H := Lib.hid h
  clear h
  go_enter Try.func6, Try.ntmps6
  go_wp2_with fail
  refine (known_any _).mono ?_
  rintro e w1 ⟨rfl, hf⟩
  have HF : Hid (Fr [] w w1) := ((Fr.refl [] w).alloc _).trans hf (by simp)
  clear hf
  go_wp2_with fail
  all_goals first
    | (go_ret; exact ⟨rfl, HF.out⟩)
    | (exfalso; have := H.out; omega)

theorem falls_bad (s t m : Int) (f : Nat → Int) (age more : Int) (w : World) (h1 : 0 ≤ age) (h2 : age ≤ 15) (h3 : 0 ≤ more) (h4 : more ≤ 65536) (hf : ¬ okW f) :
    Calls Try.prog 6 #[.int .i64 s, .int .i64 t, .int .i64 m, .agg (arr16 f), .int .i64 age, .int .i64 more] w fun e w' => e = .returned (.bool true) ∧ Fr [] w w' := by
  have HN := Lib.hid hf
  clear hf
  go_enter Try.func6, Try.ntmps6
  go_wp2_with fail
  refine (known_any _).mono ?_
  rintro e w1 ⟨rfl, hf⟩
  have HA : Hid (Bk w1 w.heap.size 31 (arr16 f)) := (Bk.new w _ _).fr hf (by simp)
  have HF : Hid (Fr [] w w1) := ((Fr.refl [] w).alloc _).trans hf (by simp)
  clear hf
  have c0 : w1.cell? ⟨w.heap.size, 0, none⟩ = some (.int .i64 (f 0)) := HA.out.cell 0
  have c1 : w1.cell? ⟨w.heap.size, 1, none⟩ = some (.int .i64 (f 1)) := HA.out.cell 1
  have c2 : w1.cell? ⟨w.heap.size, 2, none⟩ = some (.int .i64 (f 2)) := HA.out.cell 2
  have c3 : w1.cell? ⟨w.heap.size, 3, none⟩ = some (.int .i64 (f 3)) := HA.out.cell 3
  have c4 : w1.cell? ⟨w.heap.size, 4, none⟩ = some (.int .i64 (f 4)) := HA.out.cell 4
  have c5 : w1.cell? ⟨w.heap.size, 5, none⟩ = some (.int .i64 (f 5)) := HA.out.cell 5
  have c6 : w1.cell? ⟨w.heap.size, 6, none⟩ = some (.int .i64 (f 6)) := HA.out.cell 6
  have c7 : w1.cell? ⟨w.heap.size, 7, none⟩ = some (.int .i64 (f 7)) := HA.out.cell 7
  have c8 : w1.cell? ⟨w.heap.size, 8, none⟩ = some (.int .i64 (f 8)) := HA.out.cell 8
  have c9 : w1.cell? ⟨w.heap.size, 9, none⟩ = some (.int .i64 (f 9)) := HA.out.cell 9
  have c10 : w1.cell? ⟨w.heap.size, 10, none⟩ = some (.int .i64 (f 10)) := HA.out.cell 10
  have c11 : w1.cell? ⟨w.heap.size, 11, none⟩ = some (.int .i64 (f 11)) := HA.out.cell 11
  have c12 : w1.cell? ⟨w.heap.size, 12, none⟩ = some (.int .i64 (f 12)) := HA.out.cell 12
  have c13 : w1.cell? ⟨w.heap.size, 13, none⟩ = some (.int .i64 (f 13)) := HA.out.cell 13
  have c14 : w1.cell? ⟨w.heap.size, 14, none⟩ = some (.int .i64 (f 14)) := HA.out.cell 14
  have c15 : w1.cell? ⟨w.heap.size, 15, none⟩ = some (.int .i64 (f 15)) := HA.out.cell 15
  go_wp2_with fail
  clear c0 c1 c2 c3 c4 c5 c6 c7 c8 c9 c10 c11 c12 c13 c14 c15
  refine (sums_no f _ HN.out).mono ?_
  rintro e w2 ⟨rfl, hf⟩
  have HF2 : Hid (Fr [] w w2) := HF.out.trans hf (by simp)
  clear hf
  go_wp2_with fail
  go_ret
  exact ⟨rfl, HF2.out⟩

set_option maxRecDepth 100000 in
theorem falls_none (s t m : Int) (f : Nat → Int) (age more : Int) (w : World) (h1 : 0 ≤ age) (h2 : age ≤ 15) (h3 : 0 ≤ more) (h4 : more ≤ 65536) (hf : okW f)
    (h : s < 1 ∨ 65536 < s ∨ t < 1 ∨ 100 < t ∨ m < 1 ∨ 15 < m) :
    Calls Try.prog 6 #[.int .i64 s, .int .i64 t, .int .i64 m, .agg (arr16 f), .int .i64 age, .int .i64 more] w fun e w' => e = .returned (.bool true) ∧ Fr [] w w' := by
  have HN := Lib.hid hf
  have H := Lib.hid h
  clear hf h
  go_enter Try.func6, Try.ntmps6
  go_wp2_with fail
  refine (known_any _).mono ?_
  rintro e w1 ⟨rfl, hf⟩
  have HA : Hid (Bk w1 w.heap.size 31 (arr16 f)) := (Bk.new w _ _).fr hf (by simp)
  have HF : Hid (Fr [] w w1) := ((Fr.refl [] w).alloc _).trans hf (by simp)
  clear hf
  have c0 : w1.cell? ⟨w.heap.size, 0, none⟩ = some (.int .i64 (f 0)) := HA.out.cell 0
  have c1 : w1.cell? ⟨w.heap.size, 1, none⟩ = some (.int .i64 (f 1)) := HA.out.cell 1
  have c2 : w1.cell? ⟨w.heap.size, 2, none⟩ = some (.int .i64 (f 2)) := HA.out.cell 2
  have c3 : w1.cell? ⟨w.heap.size, 3, none⟩ = some (.int .i64 (f 3)) := HA.out.cell 3
  have c4 : w1.cell? ⟨w.heap.size, 4, none⟩ = some (.int .i64 (f 4)) := HA.out.cell 4
  have c5 : w1.cell? ⟨w.heap.size, 5, none⟩ = some (.int .i64 (f 5)) := HA.out.cell 5
  have c6 : w1.cell? ⟨w.heap.size, 6, none⟩ = some (.int .i64 (f 6)) := HA.out.cell 6
  have c7 : w1.cell? ⟨w.heap.size, 7, none⟩ = some (.int .i64 (f 7)) := HA.out.cell 7
  have c8 : w1.cell? ⟨w.heap.size, 8, none⟩ = some (.int .i64 (f 8)) := HA.out.cell 8
  have c9 : w1.cell? ⟨w.heap.size, 9, none⟩ = some (.int .i64 (f 9)) := HA.out.cell 9
  have c10 : w1.cell? ⟨w.heap.size, 10, none⟩ = some (.int .i64 (f 10)) := HA.out.cell 10
  have c11 : w1.cell? ⟨w.heap.size, 11, none⟩ = some (.int .i64 (f 11)) := HA.out.cell 11
  have c12 : w1.cell? ⟨w.heap.size, 12, none⟩ = some (.int .i64 (f 12)) := HA.out.cell 12
  have c13 : w1.cell? ⟨w.heap.size, 13, none⟩ = some (.int .i64 (f 13)) := HA.out.cell 13
  have c14 : w1.cell? ⟨w.heap.size, 14, none⟩ = some (.int .i64 (f 14)) := HA.out.cell 14
  have c15 : w1.cell? ⟨w.heap.size, 15, none⟩ = some (.int .i64 (f 15)) := HA.out.cell 15
  go_wp2_with fail
  clear c0 c1 c2 c3 c4 c5 c6 c7 c8 c9 c10 c11 c12 c13 c14 c15
  refine (sums_yes f _ HN.out).mono ?_
  rintro e w2 ⟨rfl, hf⟩
  have HF2 : Hid (Fr [] w w2) := HF.out.trans hf (by simp)
  clear hf
  go_wp2_with fail
  refine (new_no _ _ _ _ H.out).mono ?_
  rintro e w3 ⟨rfl, rfl⟩
  go_wp2_with fail
  refine (new_no _ _ _ _ H.out).mono ?_
  rintro e w3 ⟨rfl, rfl⟩
  go_wp2_with fail
  refine (num_any _ _).mono ?_
  rintro e w3 ⟨rfl, rfl⟩
  go_wp2_with fail
  refine (num_any _ _).mono ?_
  rintro e w3 ⟨rfl, rfl⟩
  go_wp2_with fail
  refine (num_any _ _).mono ?_
  rintro e w3 ⟨rfl, rfl⟩
  go_wp2_with fail
  go_ret
  exact ⟨rfl, HF2.out⟩

set_option maxRecDepth 100000 in
theorem falls_ok (s t : Int) (m : Nat) (f : Nat → Int) (a : Nat) (more : Int) (w : World) (h2 : a ≤ 15) (h3 : 0 ≤ more) (h4 : more ≤ 65536) (hf : okW f)
    (g1 : 1 ≤ s) (g2 : s ≤ 65536) (g3 : 1 ≤ t) (g4 : t ≤ 100) (g5 : 1 ≤ m) (g6 : m ≤ 15) :
    Calls Try.prog 6 #[.int .i64 s, .int .i64 t, .int .i64 m, .agg (arr16 f), .int .i64 (a : Int), .int .i64 more] w fun e w' => e = .returned (.bool true) ∧ Fr [] w w' := by
  have HN := Lib.hid hf
  obtain ⟨hm1, hm2⟩ := mul_le g1 g2 g3 g4
  have hmul : s * t / 100 ≤ s := by
    have := Int.mul_le_mul_of_nonneg_left g4 (show 0 ≤ s by omega)
    omega
  have hfa := hf a (by omega)
  clear hf
  go_enter Try.func6, Try.ntmps6
  go_wp2_with fail
  refine (known_any _).mono ?_
  rintro e w1 ⟨rfl, hf⟩
  have HA : Hid (Bk w1 w.heap.size 31 (arr16 f)) := (Bk.new w _ _).fr hf (by simp)
  have HF : Hid (Fr [] w w1) := ((Fr.refl [] w).alloc _).trans hf (by simp)
  clear hf
  have c0 : w1.cell? ⟨w.heap.size, 0, none⟩ = some (.int .i64 (f 0)) := HA.out.cell 0
  have c1 : w1.cell? ⟨w.heap.size, 1, none⟩ = some (.int .i64 (f 1)) := HA.out.cell 1
  have c2 : w1.cell? ⟨w.heap.size, 2, none⟩ = some (.int .i64 (f 2)) := HA.out.cell 2
  have c3 : w1.cell? ⟨w.heap.size, 3, none⟩ = some (.int .i64 (f 3)) := HA.out.cell 3
  have c4 : w1.cell? ⟨w.heap.size, 4, none⟩ = some (.int .i64 (f 4)) := HA.out.cell 4
  have c5 : w1.cell? ⟨w.heap.size, 5, none⟩ = some (.int .i64 (f 5)) := HA.out.cell 5
  have c6 : w1.cell? ⟨w.heap.size, 6, none⟩ = some (.int .i64 (f 6)) := HA.out.cell 6
  have c7 : w1.cell? ⟨w.heap.size, 7, none⟩ = some (.int .i64 (f 7)) := HA.out.cell 7
  have c8 : w1.cell? ⟨w.heap.size, 8, none⟩ = some (.int .i64 (f 8)) := HA.out.cell 8
  have c9 : w1.cell? ⟨w.heap.size, 9, none⟩ = some (.int .i64 (f 9)) := HA.out.cell 9
  have c10 : w1.cell? ⟨w.heap.size, 10, none⟩ = some (.int .i64 (f 10)) := HA.out.cell 10
  have c11 : w1.cell? ⟨w.heap.size, 11, none⟩ = some (.int .i64 (f 11)) := HA.out.cell 11
  have c12 : w1.cell? ⟨w.heap.size, 12, none⟩ = some (.int .i64 (f 12)) := HA.out.cell 12
  have c13 : w1.cell? ⟨w.heap.size, 13, none⟩ = some (.int .i64 (f 13)) := HA.out.cell 13
  have c14 : w1.cell? ⟨w.heap.size, 14, none⟩ = some (.int .i64 (f 14)) := HA.out.cell 14
  have c15 : w1.cell? ⟨w.heap.size, 15, none⟩ = some (.int .i64 (f 15)) := HA.out.cell 15
  go_wp2_with fail
  clear c0 c1 c2 c3 c4 c5 c6 c7 c8 c9 c10 c11 c12 c13 c14 c15
  refine (sums_yes f _ HN.out).mono ?_
  rintro e w2 ⟨rfl, hf⟩
  have HA2 := Lib.hid (HA.out.fr hf (by simp))
  have HF2 : Hid (Fr [] w w2) := HF.out.trans hf (by simp)
  clear hf
  go_wp2_with fail
  refine (new_ok _ _ _ _ g1 g2 g3 g4 (by omega) (by omega)).mono ?_
  rintro e w3 ⟨g, rfl, hg, hb, hf⟩
  have HA3 := Lib.hid (HA2.out.fr hf (by simp))
  have HB := Lib.hid hb
  have HF3 := Lib.hid (HF2.out.trans hf (by simp))
  have HG : Hid (w.heap.size < g) := Nat.lt_of_lt_of_le HA2.out.lt hg
  clear hb hf hg
  go_wp2_with fail
  refine (new_ok _ _ _ _ g1 g2 g3 g4 (by omega) (by omega)).mono ?_
  rintro e w4 ⟨h, rfl, hh, hb, hf⟩
  have HA4 := Lib.hid (HA3.out.fr hf (by simp))
  have HB4 := Lib.hid (HB.out.fr hf (by simp))
  have HC := Lib.hid hb
  have HF4 := Lib.hid (HF3.out.trans hf (by simp))
  have HH : Hid (w.heap.size < h ∧ g < h) := ⟨Nat.lt_of_lt_of_le HA3.out.lt hh, Nat.lt_of_lt_of_le HB.out.lt hh⟩
  clear hb hf hh
  go_wp2_with fail
  refine (num_any _ _).mono ?_
  rintro e w5 ⟨rfl, rfl⟩
  go_wp2_with fail
  refine (num_any _ _).mono ?_
  rintro e w5 ⟨rfl, rfl⟩
  go_wp2_with (refine wpList_load_row rfl 31 _ rfl w.heap.size rfl 31 (arr16 f) (0, 0) _ HA4.out Try.underlying31 rfl (by kernel_rfl) ?_)
  refine (turn_ok f g _ m _ _ _ HB4.out HN.out (by omega) (by omega) g5 g6 (by omega) (by omega)).mono ?_
  rintro e w5 ⟨rfl, hb, hf⟩
  have hS : ∀ x ∈ [g], x ∈ ([] : List Nat) ∨ w.heap.size ≤ x := by have := HG.out; simp; omega
  have HA5 := Lib.hid (HA4.out.fr hf (by have := HG.out; simp; omega))
  have HC5 := Lib.hid (HC.out.fr hf (by have := HH.out; simp; omega))
  have HF5 := Lib.hid (HF4.out.trans hf hS)
  clear hf hb hS
  have hca : w5.cell? ⟨w.heap.size, a, none⟩ = some (.int .i64 (f a)) := (HA5.out.cell _).trans (arr16_get f (by omega))
  have hfz := HA5.out.free a
  go_wp2_with (refine wpList_load_row rfl 31 _ rfl w.heap.size rfl 31 (arr16 (upd f a (f a + more))) (0, 0) _ (by rw [← arr16_set f (by omega)]; exact HA5.out.put a _) Try.underlying31 rfl (by kernel_rfl) ?_)
  have HA6 : Hid (Bk (w5.setCell ⟨w.heap.size, a, none⟩ (.int .i64 (f a + more))) w.heap.size 31 (arr16 (upd f a (f a + more)))) := by
    rw [← arr16_set f (by omega)]
    exact HA5.out.put a _
  have HC6 : Hid (Bk (w5.setCell ⟨w.heap.size, a, none⟩ (.int .i64 (f a + more))) h 49 (tcells (s * t / 100) m (past0 m) 1)) :=
    HC5.out.far (by have := HH.out; simp; omega) _
  have HF6 : Hid (Fr [] w (w5.setCell ⟨w.heap.size, a, none⟩ (.int .i64 (f a + more)))) := HF5.out.setCell (by simp) _
  clear hca hfz
  generalize w5.setCell ⟨w.heap.size, a, none⟩ (.int .i64 (f a + more)) = w6 at *
  by_cases hbig : f a + more ≤ 65536
  · have HN' : Hid (okW (upd f a (f a + more))) := fun k hk => by
      have := HN.out k hk
      unfold upd
      split <;> omega
    refine (turn_ok (upd f a (f a + more)) h _ m _ _ _ HC6.out HN'.out (by omega) (by omega) g5 g6 (by omega) (by omega)).mono ?_
    rintro e w7 ⟨rfl, _, hf⟩
    have HA7 := Lib.hid (HA6.out.fr hf (by have := HH.out; simp; omega))
    have HF7 := Lib.hid (HF6.out.trans hf (by have := HH.out; simp; omega))
    clear hf
    have hca : w7.cell? ⟨w.heap.size, a, none⟩ = some (.int .i64 (f a + more)) := (HA7.out.cell _).trans ((arr16_get _ (by omega)).trans (by simp [upd]))
    have hle := next_upd (wanted := s * t / 100) (most := m) (show f a ≤ f a + more by omega)
    have heq : Hid (a = 0 → next (upd f a (f a + more)) (s * t / 100) m = next f (s * t / 100) m) := fun e => by subst e; exact next_upd0
    generalize next (upd f a (f a + more)) (s * t / 100) m = y at *
    generalize next f (s * t / 100) m = x at *
    go_wp2_with fail
    refine (num_any _ _).mono ?_
    rintro e w8 ⟨rfl, rfl⟩
    go_wp2_with fail
    all_goals
      go_ret
      refine ⟨?_, HF7.out⟩
      first
        | rfl
        | (have e0 : a = 0 := by omega
           have e1 := heq.out e0
           simp [e1])
  · have HN' : Hid (¬ okW (upd f a (f a + more))) := fun hk => by
      have := hk a (by omega)
      simp [upd] at this
      omega
    refine (turn_bad (upd f a (f a + more)) h _ _ _ _ _ HC6.out HN'.out).mono ?_
    rintro e w7 ⟨rfl, hf⟩
    have HA7 := Lib.hid (HA6.out.fr hf (by simp))
    have HF7 := Lib.hid (HF6.out.trans hf (by simp))
    clear hf
    have hca : w7.cell? ⟨w.heap.size, a, none⟩ = some (.int .i64 (f a + more)) := (HA7.out.cell _).trans ((arr16_get _ (by omega)).trans (by simp [upd]))
    go_wp2_with fail
    refine (num_any _ _).mono ?_
    rintro e w8 ⟨rfl, rfl⟩
    go_wp2_with fail
    go_ret
    exact ⟨rfl, HF7.out⟩
end Go.Proofs.Ytkldeichodogdaa
