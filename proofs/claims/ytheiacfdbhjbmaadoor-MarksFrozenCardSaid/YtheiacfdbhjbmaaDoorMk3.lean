/-
  Marks: a map; New, Words, Has, Count, Next.
-/
import Derived.Test.YtheiacfdbhjbmaaDoorMk2
import Derived.Laws.MakeOwn
import Derived.Laws.EntriesVeiled
namespace Go.Proofs.YtheiacfdbhjbmaaDoor
open Go.RowKit Mk
set_option linter.unusedVariables false

theorem u64_info : (Tryd.prog.info? 58).map (fun i => (i.zero, i.size, i.bytes)) = some (some (.int .u64 0), 1, 8) := by kernel_rfl
theorem int_info : (Tryd.prog.info? 3).map (fun i => (i.zero, i.size, i.bytes)) = some (some (.int .i64 0), 1, 8) := by kernel_rfl
theorem made_one (z : Value) (n : Nat) : madeCells #[z] n = Array.replicate n z := by
  apply Array.ext
  · simp [madeCells]
  · intro i h1 h2
    simp [madeCells, Nat.mod_one]
theorem run_make_rowN {P : Program} (t e : TypeId) (i : TypeInfo) (z : Value) (ht : P.underlying t = some (.slice e)) (hi : P.info? e = some i) (hz : i.zero = some z)
    (kl kc : IntKind) (n c : Nat) (hnc : n ≤ c) (hbytes : i.bytes * c ≤ 281474976710656) (h63 : c ≤ 9223372036854775807) (w : World) :
    (Instr.makeSlice t (.int kl (n : Int)) (.int kc (c : Int))).run P w = .ok (.slice (some ⟨w.heap.size, 0, none⟩) n c) (w.alloc (.cells (madeCells z.cells (c * i.size)) e)) := by
  have hb : (i.bytes : Int) * (c : Int) ≤ 281474976710656 := by
    have h : ((i.bytes * c : Nat) : Int) ≤ 281474976710656 := by omega
    rwa [Int.natCast_mul] at h
  have hr := run_make (P := P) w t e i z ht hi hz kl kc n c (by omega) (by omega) hb (by omega)
  simp only [Int.toNat_natCast] at hr
  exact hr

def nums (size : Nat) : Nat := (size + 63) / 64

/-- A map of so many words, f its marks. -/
structure MapIs (w : World) (g gb size : Nat) (f : Nat → Bool) : Prop where
  B : Bk w g 56 #[.int .i64 size, .slice (some ⟨gb, 0, none⟩) (nums size) (nums size)]
  W : ∃ cs, Bk w gb 58 cs ∧ cs.size = nums size
  V : Ws w gb (nums size) f
  none : ∀ j, size ≤ j → f j = false
  most : size ≤ 1048576

theorem MapIs.fr {w w' : World} {g gb size : Nat} {f : Nat → Bool} {S : List Nat} (h : MapIs w g gb size f) (hf : Fr S w w') (h1 : g ∉ S) (h2 : gb ∉ S) : MapIs w' g gb size f :=
  ⟨h.B.fr hf h1, by obtain ⟨cs, hb, hs⟩ := h.W; exact ⟨cs, hb.fr hf h2, hs⟩, h.V.fr hf h2, h.none, h.most⟩
theorem MapIs.ne {w : World} {g gb size : Nat} {f : Nat → Bool} (h : MapIs w g gb size f) : g ≠ gb := by
  obtain ⟨cs, hb, _⟩ := h.W
  exact h.B.ne hb (by decide)

theorem new_bad (n : Int) (w : World) (h : n < 0 ∨ 1048576 < n) :
    Calls Tryd.prog 31 #[.int .i64 n] w fun e w' => e = .returned (.tuple #[.pointer none, .int .i64 40]) ∧ w = w' := by
  go_enter Tryd.func31, Tryd.ntmps31
  go_upto_region 3 with fail
  all_goals first | (go_ret2; exact ⟨rfl, rfl⟩) | (exfalso; omega)

def NewOk (n : Nat) (w : World) (e : Ending) (w' : World) : Prop :=
  ∃ g gb, e = .returned (.tuple #[.pointer (some ⟨g, 0, none⟩), .int .i64 0]) ∧ Fr [] w w' ∧ w.heap.size ≤ g ∧ w.heap.size ≤ gb ∧ MapIs w' g gb n (fun _ => false)

set_option maxHeartbeats 800000 in
theorem new_ok (n : Nat) (w : World) (h : n ≤ 1048576) : Calls Tryd.prog 31 #[.int .i64 n] w (NewOk n w) := by
  obtain ⟨i1, hi1, hz1, hs1, hb1⟩ := info_parts u64_info
  obtain ⟨m, hm⟩ : ∃ m, nums n = m := ⟨_, rfl⟩
  have hml : m ≤ 16384 := by rw [← hm]; unfold nums; omega
  have e1 : ((n : Int) + 64 - 1) / 64 = (m : Int) := by rw [← hm]; unfold nums; omega
  have i0 : (0 : Int) ≤ (n : Int) := by omega
  have hm1 : ∀ W : World, (Instr.makeSlice 54 (.int .i64 (m : Int)) (.int .i64 (m : Int))).run Tryd.prog W = .ok (.slice (some ⟨W.heap.size, 0, none⟩) m m) (W.alloc (.cells (Array.replicate m (.int .u64 0)) 58)) := fun W => by
    have h := run_make_rowN (P := Tryd.prog) 54 58 i1 _ Tryd.underlying54 hi1 hz1 .i64 .i64 m m (Nat.le_refl _) (by rw [hb1]; omega) (by omega) W
    rw [h, hs1, Nat.mul_one]
    rw [show (Value.int .u64 0).cells = #[.int .u64 0] from rfl, made_one]
  have HM := Lib.hid hm
  clear hi1 hz1 hs1 hb1 hm
  go_enter Tryd.func31, Tryd.ntmps31
  go_wp2_with fail
  go_ret2
  refine ⟨w.heap.size + 1, w.heap.size, rfl, ((Fr.refl _ _).alloc _).alloc _, by omega, Nat.le_refl _, ⟨?_, ?_, ?_, fun _ _ => rfl, h⟩⟩
  · rw [HM.out]
    exact Bk.new_at _ _ _ _ (by simp)
  · exact ⟨_, (Bk.new w _ _).alloc _, by rw [HM.out]; simp⟩
  · rw [HM.out]
    refine ⟨by simp; omega, fun i hi => ⟨0, ?_, wd_none i⟩⟩
    rw [((Bk.new w _ _).alloc _).cell i]
    simp [hi]

theorem words_any (g gb size : Nat) (f : Nat → Bool) (w : World) (h : MapIs w g gb size f) :
    Calls Tryd.prog 32 #[.pointer (some ⟨g, 0, none⟩)] w fun e w' => e = .returned (.int .i64 size) ∧ w = w' := by
  have c0 : w.cell? ⟨g, 0, none⟩ = some (.int .i64 size) := h.B.cell 0
  clear h
  go_enter Tryd.func32, Tryd.ntmps32
  go_wp2_with fail
  go_ret
  exact ⟨rfl, rfl⟩

def hasF (f : Nat → Bool) (size : Nat) (at_ : Int) : Bool := decide (0 ≤ at_) && decide (at_ < size) && f at_.toNat
theorem hasm_any (g gb size : Nat) (f : Nat → Bool) (at_ : Int) (w : World) (h : MapIs w g gb size f) :
    Calls Tryd.prog 24 #[.pointer (some ⟨g, 0, none⟩), .int .i64 at_] w fun e w' => e = .returned (.bool (hasF f size at_)) ∧ w = w' := by
  have c0 : w.cell? ⟨g, 0, none⟩ = some (.int .i64 size) := h.B.cell 0
  have c1 : w.cell? ⟨g, 1, none⟩ = some (.slice (some ⟨gb, 0, none⟩) (nums size) (nums size)) := h.B.cell 1
  have hm := h.most
  have HV := Lib.hid h.V
  clear h
  unfold hasF
  by_cases h0 : 0 ≤ at_
  · by_cases h1 : at_ < size
    · obtain ⟨k, rfl⟩ := Int.eq_ofNat_of_zero_le h0
      have hk : k < 64 * nums size := by unfold nums; omega
      have hml : nums size ≤ 65536 := by unfold nums; omega
      have d0 : decide (0 ≤ (k : Int)) = true := by simp
      generalize nums size = m at *
      go_enter Tryd.func24, Tryd.ntmps24
      go_wp2_with fail
      refine (has_any gb m m k f w hml hk HV.out).mono ?_
      rintro e w' ⟨rfl, rfl⟩
      go_wp2_with fail
      go_ret
      exact ⟨by simp [h1], rfl⟩
    · have d0 : decide (0 ≤ at_) = true := by simpa using h0
      have d1 : decide (at_ < (size : Int)) = false := by simpa using h1
      go_enter Tryd.func24, Tryd.ntmps24
      go_wp2_with fail
      go_ret
      exact ⟨by simp, rfl⟩
  · have d0 : decide (0 ≤ at_) = false := by simpa using h0
    go_enter Tryd.func24, Tryd.ntmps24
    go_wp2_with fail
    go_ret
    exact ⟨by simp, rfl⟩
end Go.Proofs.YtheiacfdbhjbmaaDoor
