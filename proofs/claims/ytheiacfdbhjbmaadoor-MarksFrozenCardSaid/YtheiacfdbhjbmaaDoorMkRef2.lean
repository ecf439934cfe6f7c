/-
  Marks: the document's map: Set, Clear.
-/
import Derived.Test.YtheiacfdbhjbmaaDoorMkRef1
namespace Go.Proofs.YtheiacfdbhjbmaaDoor
open Go.RowKit Mk
set_option linter.unusedVariables false

theorem rset_refused (r rb size : Nat) (F : Nat → Bool) (a n : Int) (w : World) (hn : n ≤ 9223372036854775807) (ha : a ≤ 9223372036854775807) (h : RefM w r rb size F) (hbad : ¬ (0 ≤ a ∧ 0 ≤ n ∧ a ≤ size ∧ n ≤ size - a)) :
    Calls Tryd.prog 49 #[.pointer (some ⟨r, 0, none⟩), .int .i64 a, .int .i64 n] w fun e w' => e = .returned (.tuple #[.bool false, .int .i64 41]) ∧ w = w' := by
  have c0 : w.cell? ⟨r, 0, none⟩ = some (.slice (some ⟨rb, 0, none⟩) size size) := h.B.cell 0
  have hm := h.most
  clear h
  go_enter Tryd.func49, Tryd.ntmps49
  by_cases h1 : a < 0
  · go_wp2_with fail
    go_ret2
    exact ⟨rfl, rfl⟩
  by_cases h2 : n < 0
  · have d1 : decide (a < 0) = false := by simpa using h1
    go_wp2_with fail
    go_ret2
    exact ⟨rfl, rfl⟩
  have d1 : decide (a < 0) = false := by simpa using h1
  have d2 : decide (n < 0) = false := by simpa using h2
  by_cases h3 : (size : Int) < a
  · go_wp2_with fail
    go_ret2
    exact ⟨rfl, rfl⟩
  have d3 : decide ((size : Int) < a) = false := by simpa using h3
  have i1 : 0 ≤ a := by omega
  have i2 : a ≤ size := by omega
  have i3 : 0 ≤ n := by omega
  have h4 : (size : Int) - a < n := by omega
  go_wp2_with fail
  go_ret2
  exact ⟨rfl, rfl⟩

def RSetOk (r rb size : Nat) (F : Nat → Bool) (a n : Nat) (w : World) (e : Ending) (w' : World) : Prop :=
  e = .returned (.tuple #[.bool (decide (cnt F a n = 0)), .int .i64 0]) ∧ RefM w' r rb size (addF F a (a + n)) ∧ Fr [rb] w w'

theorem RefM.mark {z : World} {r rb size : Nat} {F : Nat → Bool} (h : RefM z r rb size F) {k : Nat} (hk : k < size) : RefM (z.setCell ⟨rb, k, none⟩ (.bool true)) r rb size (upd F k) :=
  ⟨h.B.far (p := ⟨rb, k, none⟩) (h.B.ne h.R (by decide)) _, by rw [← rowB_put F hk]; exact h.R.put k _, h.most⟩

set_option maxHeartbeats 800000 in
theorem rset_ok (r rb size : Nat) (F : Nat → Bool) (a n : Nat) (w : World) (h : RefM w r rb size F) (han : a + n ≤ size) :
    Calls Tryd.prog 49 #[.pointer (some ⟨r, 0, none⟩), .int .i64 a, .int .i64 n] w (RSetOk r rb size F a n w) := by
  have c0 : w.cell? ⟨r, 0, none⟩ = some (.slice (some ⟨rb, 0, none⟩) size size) := h.B.cell 0
  have hm := h.most
  have H := Lib.hid h
  clear h
  have d1 : decide ((a : Int) < 0) = false := by simp
  have d2 : decide ((n : Int) < 0) = false := by simp
  have d3 : decide ((size : Int) < (a : Int)) = false := by simp; omega
  have d3n : decide (size < a) = false := by simp; omega
  have d4 : decide ((size : Int) - (a : Int) < (n : Int)) = false := by simp; omega
  go_enter Tryd.func49, Tryd.ntmps49
  go_upto_region 5 with fail
  clear c0 d1 d2 d3 d3n d4
  go_loopw [8, 9] (fun u i wr => ∃ k : Nat, a ≤ k ∧ k ≤ a + n ∧ i = .int .i64 k ∧ u = .bool (decide (cnt F a (k - a) = 0)) ∧ Hid (RefM wr r rb size (addF F a k) ∧ Fr [rb] w wr)) (fun _ i _ => a + n - (intOf i).toNat)
  case atStart => exact ⟨a, Nat.le_refl _, by omega, rfl, by rw [Nat.sub_self]; rfl, by rw [addF_self]; exact H.out, Fr.refl _ _⟩
  case round =>
    obtain ⟨k, hk1, hk2, rfl, rfl, hx⟩ := hrel
    have HX := Lib.hid hx.out.1
    have HF := Lib.hid hx.out.2
    clear hx
    by_cases hlt : k < a + n
    · have hlt' : (k : Int) < (a : Int) + (n : Int) := by omega
      have hks : k < size := by omega
      have i1 : (0 : Int) ≤ (k : Int) := by omega
      have i2 : (k : Int) < (size : Int) := by omega
      have c0 : wr.cell? ⟨r, 0, none⟩ = some (.slice (some ⟨rb, 0, none⟩) size size) := HX.out.B.cell 0
      have ck := HX.out.cell hks
      have hfz := HX.out.R.free k
      have hBk : addF F a k k = F k := by unfold addF; rw [decide_eq_false (by omega : ¬ k < k)]; simp
      rw [hBk] at ck
      have hst : cnt F a (k + 1 - a) = cnt F a (k - a) + if F k then 1 else 0 := by
        rw [show k + 1 - a = k - a + 1 by omega]
        show cnt F a (k - a) + (if F (a + (k - a)) then 1 else 0) = _
        rw [show a + (k - a) = k by omega]
      obtain ⟨B, hB⟩ : ∃ B, F k = B := ⟨_, rfl⟩
      obtain ⟨N, hN⟩ : ∃ N, decide (cnt F a (k - a) = 0) = N := ⟨_, rfl⟩
      have hNB : decide (cnt F a (k + 1 - a) = 0) = (N && !B) := by
        rw [hst, hB, ← hN]
        cases B <;> simp
      rw [hB] at ck
      rw [hN]
      have HN := Lib.hid hNB
      have HM1 : Hid (RefM (wr.setCell ⟨rb, k, none⟩ (.bool true)) r rb size (addF F a (k + 1))) := by
        show RefM _ r rb size (addF F a (k + 1))
        rw [← addF_next F hk1]
        exact HX.out.mark hks
      have HF1 : Hid (Fr [rb] w (wr.setCell ⟨rb, k, none⟩ (.bool true))) := HF.out.setCell (by simp) _
      clear hB hN hst hNB hBk
      cases N <;> cases B
      all_goals
        go_wp2_with fail
        go_roundw
        case rel => exact ⟨k + 1, by omega, by omega, by go_num, by rw [HN.out]; rfl, HM1.out, HF1.out⟩
        case measure => simp [intOf]; omega
    · obtain rfl : k = a + n := by omega
      go_wp2_with fail
      go_ret2
      refine ⟨?_, HX.out, HF.out⟩
      rw [show a + n - a = n by omega]
      rfl

def RSetAny (r rb size : Nat) (f : Nat → Bool) (a n : Int) (w : World) (e : Ending) (w' : World) : Prop :=
  e = .returned (.tuple #[.bool (setB size f a n), .int .i64 (setE size a n)]) ∧ RefM w' r rb size (setF size f a n) ∧ Fr [rb] w w'

theorem rset_any (r rb size : Nat) (f : Nat → Bool) (a n : Int) (w : World) (ha : a ≤ 9223372036854775807) (hn : n ≤ 9223372036854775807) (h : RefM w r rb size f) :
    Calls Tryd.prog 49 #[.pointer (some ⟨r, 0, none⟩), .int .i64 a, .int .i64 n] w (RSetAny r rb size f a n w) := by
  by_cases hf : 0 ≤ a ∧ 0 ≤ n ∧ a ≤ size ∧ n ≤ size - a
  · obtain ⟨h1, h2, h3, h4⟩ := hf
    have hfit : fits size a n = true := by unfold fits; simp; omega
    obtain ⟨a, rfl⟩ := Int.eq_ofNat_of_zero_le h1
    obtain ⟨n, rfl⟩ := Int.eq_ofNat_of_zero_le h2
    refine (rset_ok r rb size f a n w h (by omega)).mono ?_
    rintro e w' ⟨he, hm, hfr⟩
    refine ⟨?_, ?_, hfr⟩
    · rw [he]; simp [setB, setE, hfit]
    · unfold setF; rw [hfit]; exact hm
  · have hfit : fits size a n = false := by
      rw [Bool.eq_false_iff]
      intro h
      apply hf
      unfold fits at h
      simpa using h
    refine (rset_refused r rb size f a n w hn ha h hf).mono ?_
    rintro e w' ⟨he, rfl⟩
    refine ⟨?_, ?_, Fr.refl _ _⟩
    · rw [he]; simp [setB, setE, hfit]
    · unfold setF; rw [hfit]; exact h

def RClearOk (r size : Nat) (w : World) (e : Ending) (w' : World) : Prop :=
  e = .returned (.tuple #[]) ∧ ∃ rb, RefM w' r rb size (fun _ => false) ∧ Fr [r] w w' ∧ w.heap.size ≤ rb
theorem rclear_any (r rb size : Nat) (F : Nat → Bool) (w : World) (h : RefM w r rb size F) :
    Calls Tryd.prog 54 #[.pointer (some ⟨r, 0, none⟩)] w (RClearOk r size w) := by
  have c0 : w.cell? ⟨r, 0, none⟩ = some (.slice (some ⟨rb, 0, none⟩) size size) := h.B.cell 0
  have hm1 := make_bools size h.most
  have hfz := (h.B.alloc (.cells (rowB (fun _ => false) size) 4)).free 0
  have hcz := (h.B.alloc (.cells (rowB (fun _ => false) size) 4)).cell 0
  have H := Lib.hid h
  clear h
  go_enter Tryd.func54, Tryd.ntmps54
  go_wp2_with fail
  go_returns
  have hB := (H.out.B.alloc (.cells (rowB (fun _ => false) size) 4)).put 0 (.slice (some ⟨w.heap.size, 0, none⟩) size size)
  refine ⟨rfl, w.heap.size, ⟨hB, ?_, H.out.most⟩, ((Fr.refl _ _).alloc _).setCell (by simp) _, Nat.le_refl _⟩
  exact (Bk.new w _ _).far (p := ⟨r, 0, none⟩) (by have := H.out.B.lt; show w.heap.size ≠ r; omega) _
end Go.Proofs.YtheiacfdbhjbmaaDoor
