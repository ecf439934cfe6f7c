/-
  Marks: the document's map (a row of truths): New, Has, Count, Next.
-/
import Derived.Test.YtheiacfdbhjbmaaDoorMk9
namespace Go.Proofs.YtheiacfdbhjbmaaDoor
open Go.RowKit Mk
set_option linter.unusedVariables false

theorem bool_info : (Tryd.prog.info? 4).map (fun i => (i.zero, i.size, i.bytes)) = some (some (.bool false), 1, 1) := by kernel_rfl
def rowB (F : Nat → Bool) (n : Nat) : Array Value := ((List.range n).map fun i => Value.bool (F i)).toArray
theorem rowB_at {F : Nat → Bool} {n i : Nat} (h : i < n) : (rowB F n)[i]? = some (.bool (F i)) := by
  simp [rowB, h]
theorem rowB_size (F : Nat → Bool) (n : Nat) : (rowB F n).size = n := by simp [rowB]
theorem rowB_none (n : Nat) : Array.replicate n (Value.bool false) = rowB (fun _ => false) n := by
  apply Array.ext
  · simp [rowB]
  · intro i h1 h2
    simp [rowB]
theorem rowB_put (F : Nat → Bool) {n i : Nat} (h : i < n) : (rowB F n).setIfInBounds i (.bool true) = rowB (upd F i) n := by
  apply Array.ext
  · simp [rowB]
  · intro j h1 h2
    simp [rowB, upd]
    by_cases e : i = j
    · subst e; simp
    · have e2 : ¬ j = i := fun h => e h.symm
      simp [e, e2]

/-- The document's map: a truth a word. -/
structure RefM (w : World) (r rb size : Nat) (F : Nat → Bool) : Prop where
  B : Bk w r 86 #[.slice (some ⟨rb, 0, none⟩) size size]
  R : Bk w rb 4 (rowB F size)
  most : size ≤ 1048576
theorem RefM.fr {w w' : World} {r rb size : Nat} {F : Nat → Bool} {S : List Nat} (h : RefM w r rb size F) (hf : Fr S w w') (h1 : r ∉ S) (h2 : rb ∉ S) : RefM w' r rb size F :=
  ⟨h.B.fr hf h1, h.R.fr hf h2, h.most⟩
theorem RefM.cell {w : World} {r rb size : Nat} {F : Nat → Bool} (h : RefM w r rb size F) {i : Nat} (hi : i < size) : w.cell? ⟨rb, i, none⟩ = some (.bool (F i)) := (h.R.cell i).trans (rowB_at hi)

theorem rnew_bad (n : Int) (w : World) (h : n < 0 ∨ 1048576 < n) :
    Calls Tryd.prog 48 #[.int .i64 n] w fun e w' => e = .returned (.tuple #[.pointer none, .int .i64 40]) ∧ w = w' := by
  go_enter Tryd.func48, Tryd.ntmps48
  go_upto_region 3 with fail
  all_goals first | (go_ret2; exact ⟨rfl, rfl⟩) | (exfalso; omega)

theorem make_bools (n : Nat) (h : n ≤ 1048576) (W : World) : (Instr.makeSlice 84 (.int .i64 (n : Int)) (.int .i64 (n : Int))).run Tryd.prog W = .ok (.slice (some ⟨W.heap.size, 0, none⟩) n n) (W.alloc (.cells (rowB (fun _ => false) n) 4)) := by
  obtain ⟨i1, hi1, hz1, hs1, hb1⟩ := info_parts bool_info
  have h := run_make_rowN (P := Tryd.prog) 84 4 i1 _ Tryd.underlying84 hi1 hz1 .i64 .i64 n n (Nat.le_refl _) (by rw [hb1]; omega) (by omega) W
  rw [h, hs1, Nat.mul_one]
  rw [show (Value.bool false).cells = #[.bool false] from rfl, made_one, rowB_none]

def RNewOk (n : Nat) (w : World) (e : Ending) (w' : World) : Prop :=
  ∃ r rb, e = .returned (.tuple #[.pointer (some ⟨r, 0, none⟩), .int .i64 0]) ∧ Fr [] w w' ∧ w.heap.size ≤ r ∧ w.heap.size ≤ rb ∧ RefM w' r rb n (fun _ => false)
theorem rnew_ok (n : Nat) (w : World) (h : n ≤ 1048576) : Calls Tryd.prog 48 #[.int .i64 n] w (RNewOk n w) := by
  have hm1 := make_bools n h
  go_enter Tryd.func48, Tryd.ntmps48
  go_wp2_with fail
  go_ret2
  refine ⟨w.heap.size + 1, w.heap.size, rfl, ((Fr.refl _ _).alloc _).alloc _, by omega, Nat.le_refl _, ⟨?_, ?_, h⟩⟩
  · exact Bk.new_at _ _ _ _ (by simp)
  · exact (Bk.new w _ _).alloc _

theorem rhas_any (r rb size : Nat) (F : Nat → Bool) (at_ : Int) (w : World) (h : RefM w r rb size F) :
    Calls Tryd.prog 50 #[.pointer (some ⟨r, 0, none⟩), .int .i64 at_] w fun e w' => e = .returned (.bool (hasF F size at_)) ∧ w = w' := by
  have c0 : w.cell? ⟨r, 0, none⟩ = some (.slice (some ⟨rb, 0, none⟩) size size) := h.B.cell 0
  have hm := h.most
  unfold hasF
  by_cases h0 : 0 ≤ at_
  · by_cases h1 : at_ < size
    · obtain ⟨k, rfl⟩ := Int.eq_ofNat_of_zero_le h0
      have d0 : decide (0 ≤ (k : Int)) = true := by simp
      have ck := h.cell (i := k) (by omega)
      clear h
      go_enter Tryd.func50, Tryd.ntmps50
      go_wp2_with fail
      go_ret
      exact ⟨by simp [h1], rfl⟩
    · have d0 : decide (0 ≤ at_) = true := by simpa using h0
      have d1 : decide (at_ < (size : Int)) = false := by simpa using h1
      clear h
      go_enter Tryd.func50, Tryd.ntmps50
      go_wp2_with fail
      go_ret
      exact ⟨by simp, rfl⟩
  · have d0 : decide (0 ≤ at_) = false := by simpa using h0
    clear h
    go_enter Tryd.func50, Tryd.ntmps50
    go_wp2_with fail
    go_ret
    exact ⟨by simp, rfl⟩

/-- What the document counts of the first k words. -/
def pcF (F : Nat → Bool) (a b : Int) : Nat → Bool := fun j => F j && (decide (a ≤ (j : Int)) && decide ((j : Int) < b))
theorem pc_cnt (F : Nat → Bool) (size : Nat) (a b : Int) : cnt (pcF F a b) 0 size = cntI F size a b := by
  unfold cntI
  obtain ⟨p, hp⟩ : ∃ p, min (lowI a) size = p := ⟨_, rfl⟩
  obtain ⟨q, hq⟩ : ∃ q, max p (highI b size) = q := ⟨_, rfl⟩
  have hqs : q ≤ size := by rw [← hq, ← hp]; unfold highI; split <;> omega
  have hpq : p ≤ q := by omega
  have h1 := cnt_add (pcF F a b) 0 p (size - p)
  have h2 := cnt_add (pcF F a b) p (q - p) (size - q)
  rw [show p + (size - p) = size by omega, Nat.zero_add] at h1
  rw [show q - p + (size - q) = size - p by omega, show p + (q - p) = q by omega] at h2
  have z1 : cnt (pcF F a b) 0 p = 0 := cnt_zero (fun i hi => by
    unfold pcF
    rw [decide_eq_false (by rw [← hp] at hi; unfold lowI at hi; omega : ¬ a ≤ ((0 + i : Nat) : Int))]
    simp)
  have z2 : cnt (pcF F a b) q (size - q) = 0 := cnt_zero (fun i hi => by
    unfold pcF
    rw [decide_eq_false (by rw [← hq] at hi ⊢; unfold highI at *; split at hi <;> rename_i hs <;> simp only [hs, if_true, if_false] at * <;> omega : ¬ ((q + i : Nat) : Int) < b)]
    simp)
  have e : cnt (pcF F a b) p (q - p) = cnt F (lowI a) (highI b size - lowI a) := by
    by_cases hlt : lowI a < highI b size
    · have hpe : p = lowI a := by
        have : highI b size ≤ size := by unfold highI; split <;> omega
        omega
      have hqe : q = highI b size := by omega
      rw [hpe, hqe]
      refine cnt_congr (fun i hi => ?_)
      unfold pcF
      rw [decide_eq_true (by unfold lowI; omega : a ≤ ((lowI a + i : Nat) : Int)), decide_eq_true (by unfold highI lowI at *; split at hi <;> omega : ((lowI a + i : Nat) : Int) < b)]
      simp
    · have hpe : q = p := by
        rw [← hq]
        unfold highI lowI at *
        split at hlt <;> split <;> omega
      rw [hpe, show highI b size - lowI a = 0 by omega, Nat.sub_self]
      rfl
  omega
theorem pc_next (F : Nat → Bool) (a b : Int) (k : Nat) : cnt (pcF F a b) 0 (k + 1) = cnt (pcF F a b) 0 k + if pcF F a b k then 1 else 0 := by
  rw [cnt_add, Nat.zero_add]
  simp [cnt]

set_option maxHeartbeats 800000 in
theorem rcount_any (r rb size : Nat) (F : Nat → Bool) (a b : Int) (w : World) (h : RefM w r rb size F) :
    Calls Tryd.prog 51 #[.pointer (some ⟨r, 0, none⟩), .int .i64 a, .int .i64 b] w fun e w' => e = .returned (.int .i64 (cntI F size a b)) ∧ w = w' := by
  have c0 : w.cell? ⟨r, 0, none⟩ = some (.slice (some ⟨rb, 0, none⟩) size size) := h.B.cell 0
  have hm := h.most
  have H := Lib.hid h
  clear h
  go_enter Tryd.func51, Tryd.ntmps51
  go_wp2_with fail
  go_loopw [7, 8] (fun n i wr => ∃ k q : Nat, k ≤ size ∧ i = .int .i64 k ∧ n = .int .i64 q ∧ q ≤ k ∧ Hid (q = cnt (pcF F a b) 0 k) ∧ w = wr) (fun _ i _ => size - (intOf i).toNat)
  case atStart => exact ⟨0, 0, by omega, rfl, rfl, by omega, rfl, rfl⟩
  case round =>
    obtain ⟨k, q, hk, rfl, rfl, hq, HQ, rfl⟩ := hrel
    by_cases hlt : k < size
    · have ck := H.out.cell (i := k) hlt
      obtain ⟨B, hB⟩ : ∃ B, F k = B := ⟨_, rfl⟩
      rw [hB] at ck
      have hks : (k : Int) < (size : Int) := by omega
      have HB := Lib.hid hB
      clear hB
      go_upto_region 5 with fail
      go_cut [34] (fun v wx => v = .bool (pcF F a b k) ∧ w = wx)
      case first =>
        cases B
        all_goals
          go_wp2_with fail
          all_goals
            go_meet
            case rel => exact ⟨congrArg Value.bool (by unfold pcF; rw [HB.out]; simp [*] <;> (try (intros; omega))), rfl⟩
      obtain ⟨rfl, rfl⟩ := hcut
      have hst := pc_next F a b k
      rw [← HQ.out] at hst
      have HST := Lib.hid hst
      clear hst ck
      obtain ⟨C, hC⟩ : ∃ C, pcF F a b k = C := ⟨_, rfl⟩
      rw [hC] at HST ⊢
      clear hC
      cases C
      all_goals
        go_wp2_with fail
        go_roundw
        case rel => first | exact ⟨k + 1, q, by omega, by go_num, rfl, by omega, by have := HST.out; simp at this; exact this.symm, by first | rfl | trivial⟩ | exact ⟨k + 1, q + 1, by omega, by go_num, by go_num, by omega, by have := HST.out; simp at this; exact this.symm, by first | rfl | trivial⟩
        case measure => simp [intOf]; omega
    · obtain rfl : k = size := by omega
      have hks : ¬ (k : Int) < (k : Int) := by omega
      go_wp2_with fail
      go_ret
      exact ⟨ret_int' (by rw [HQ.out, pc_cnt]), rfl⟩

set_option maxHeartbeats 800000 in
theorem rnext_any (r rb size : Nat) (F : Nat → Bool) (a : Int) (w : World) (h : RefM w r rb size F) :
    Calls Tryd.prog 52 #[.pointer (some ⟨r, 0, none⟩), .int .i64 a] w fun e w' => e = .returned (.int .i64 (nxtI F size a)) ∧ w = w' := by
  have c0 : w.cell? ⟨r, 0, none⟩ = some (.slice (some ⟨rb, 0, none⟩) size size) := h.B.cell 0
  have hm := h.most
  have H := Lib.hid h
  clear h
  go_enter Tryd.func52, Tryd.ntmps52
  go_wp2_with fail
  go_loopw [5] (fun i wr => ∃ k : Nat, k ≤ size ∧ i = .int .i64 k ∧ Hid (∀ j : Nat, j < k → a ≤ (j : Int) → F j = false) ∧ w = wr) (fun i _ => size - (intOf i).toNat)
  case atStart => exact ⟨0, by omega, rfl, fun j h1 h2 => by omega, rfl⟩
  case round =>
    obtain ⟨k, hk, rfl, HQ, rfl⟩ := hrel
    by_cases hlt : k < size
    · have ck := H.out.cell (i := k) hlt
      obtain ⟨B, hB⟩ : ∃ B, F k = B := ⟨_, rfl⟩
      rw [hB] at ck
      have hks : (k : Int) < (size : Int) := by omega
      have HB := Lib.hid hB
      clear hB
      cases B with
      | false =>
        go_wp2_with fail
        go_roundw
        case rel =>
          refine ⟨k + 1, by omega, by go_num, ?_, by first | rfl | trivial⟩
          show ∀ j : Nat, j < k + 1 → a ≤ (j : Int) → F j = false
          intro j h1 h2
          by_cases hj : j = k
          · subst hj; exact HB.out
          · exact HQ.out j (by omega) h2
        case measure => simp [intOf]; omega
      | true =>
        by_cases hak : a ≤ (k : Int)
        · go_wp2_with fail
          go_ret
          refine ⟨ret_int' ?_, rfl⟩
          have e : k = nxt F a.toNat size := nxt_of ⟨.inr ⟨by omega, hlt, HB.out⟩, fun j h1 h2 => HQ.out j h2 (by omega)⟩
          unfold nxtI
          rw [← e, if_pos hlt]
        · have d : decide (a ≤ (k : Int)) = false := by simpa using hak
          go_wp2_with fail
          go_roundw
          case rel =>
            refine ⟨k + 1, by omega, by go_num, ?_, by first | rfl | trivial⟩
            show ∀ j : Nat, j < k + 1 → a ≤ (j : Int) → F j = false
            intro j h1 h2
            by_cases hj : j = k
            · subst hj; omega
            · exact HQ.out j (by omega) h2
          case measure => simp [intOf]; omega
    · obtain rfl : k = size := by omega
      have hks : ¬ (k : Int) < (k : Int) := by omega
      go_wp2_with fail
      go_ret
      refine ⟨ret_int' ?_, rfl⟩
      have e : k = nxt F a.toNat k := nxt_of ⟨.inl rfl, fun j h1 h2 => HQ.out j h2 (by omega)⟩
      unfold nxtI
      rw [← e, if_neg (by omega)]
end Go.Proofs.YtheiacfdbhjbmaaDoor
