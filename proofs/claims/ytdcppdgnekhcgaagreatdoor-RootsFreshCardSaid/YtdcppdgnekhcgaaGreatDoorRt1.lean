/-
  Roots: New, and what it makes.
-/
import Derived.Test.YtdcppdgnekhcgaaGreatDoorRows
import Derived.Test.YtdcppdgnekhcgaaGreatDoorLst
import Derived.Laws.MakeOwn
import Derived.Laws.EntriesVeiled
import Derived.BigRegion
import Derived.Deep.DeepCutAuto
import Derived.Deep.QuietTactic
import Derived.BigQuiet
namespace Go.Proofs.YtdcppdgnekhcgaaGreatDoor
open Go.RowKit
set_option maxRecDepth 100000
set_option linter.unusedVariables false

theorem made_one (z : Value) (n : Nat) : madeCells #[z] n = Array.replicate n z := by
  apply Array.ext
  · simp [madeCells]
  · intro i h1 h2
    simp [madeCells, Nat.mod_one]

theorem run_make_rowN {P : Program} (t e : TypeId) (i : TypeInfo) (z : Value) (ht : P.underlying t = some (.slice e)) (hi : P.info? e = some i) (hz : i.zero = some z)
    (kl kc : IntKind) (n c : Nat) (hnc : n ≤ c) (hbytes : i.bytes * c ≤ 281474976710656) (h63 : c ≤ 9223372036854775807) (w : World) :
    (Instr.makeSlice t (.int kl (n : Int)) (.int kc (c : Int))).run P w = .ok (.slice (some ⟨w.heap.size, 0, none⟩) n c) (w.alloc (.cells (madeCells z.cells (c * i.size)) e)) := by
  have hb : (i.bytes : Int) * (c : Int) ≤ 281474976710656 := by
    have h : ((i.bytes * c : Nat) : Int) ≤ 281474976710656 := by omega
    rwa [Int.natCast_mul] at h
  have hr := run_make (P := P) w t e i z ht hi hz kl kc n c (by omega) (by omega) hb (by omega)
  simp only [Int.toNat_natCast] at hr
  exact hr

theorem frames_info : (Tryz.prog.info? 30).map (fun i => (i.zero, i.size, i.bytes)) = some (some (.slice none 0 0), 1, 24) := by kernel_rfl
theorem handle_info : (Tryz.prog.info? 87).map (fun i => (i.zero, i.size, i.bytes)) = some (some (.agg #[.bool false, .int .i64 0]), 2, 16) := by kernel_rfl
theorem ints_info : (Tryz.prog.info? 29).map (fun i => (i.zero, i.size, i.bytes)) = some (some (.slice none 0 0), 1, 24) := by kernel_rfl
theorem int_info : (Tryz.prog.info? 3).map (fun i => (i.zero, i.size, i.bytes)) = some (some (.int .i64 0), 1, 8) := by kernel_rfl

/-- Handles that are all closed. -/
def shutH (H : Nat) : Array Value := madeCells #[.bool false, .int .i64 0] (H * 2)
theorem shutH_open {H k : Nat} (h : k < H) : (shutH H)[k * 2]? = some (.bool false) := by
  unfold shutH madeCells
  have : k * 2 < H * 2 := by omega
  simp [this]
theorem shutH_at {H k : Nat} (h : k < H) : (shutH H)[k * 2 + 1]? = some (.int .i64 0) := by
  unfold shutH madeCells
  have : k * 2 + 1 < H * 2 := by omega
  simp [this]

/-- Roots that nobody has used yet. -/
structure FreshR (w : World) (g gT gH T S H : Nat) : Prop where
  B : Bk w g 84 #[.int .i64 S, .slice (some ⟨gT, 0, none⟩) T T, .slice (some ⟨gH, 0, none⟩) H H, .slice none 0 0]
  Th : Bk w gT 30 (Array.replicate T (.slice none 0 0))
  Hd : Bk w gH 87 (shutH H)
  ok : 1 ≤ T ∧ T ≤ 8 ∧ 1 ≤ S ∧ S ≤ 4096 ∧ H ≤ 1024

theorem FreshR.fr {w w' : World} {g gT gH T S H : Nat} (h : FreshR w g gT gH T S H) (hf : Fr [] w w') : FreshR w' g gT gH T S H :=
  ⟨h.B.fr hf (by simp), h.Th.fr hf (by simp), h.Hd.fr hf (by simp), h.ok⟩

def okNew (T S H : Int) : Prop := 1 ≤ T ∧ T ≤ 8 ∧ 1 ≤ S ∧ S ≤ 4096 ∧ 0 ≤ H ∧ H ≤ 1024

theorem new_bad (T S H : Int) (w : World) (h : ¬ okNew T S H) :
    Calls Tryz.prog 44 #[.int .i64 T, .int .i64 S, .int .i64 H] w fun e w' => e = .returned (.tuple #[.pointer none, .int .i64 50]) ∧ w = w' := by
  unfold okNew at h
  go_enter Tryz.func44, Tryz.ntmps44
  go_upto_region 3 with fail
  all_goals first | (go_ret2; exact ⟨rfl, rfl⟩) | (exfalso; omega)

set_option maxHeartbeats 1600000 in
theorem new_ok (T S H : Nat) (w : World) (hT : 1 ≤ T ∧ T ≤ 8) (hS : 1 ≤ S ∧ S ≤ 4096) (hH : H ≤ 1024) :
    Calls Tryz.prog 44 #[.int .i64 T, .int .i64 S, .int .i64 H] w fun e w' => ∃ g gT gH, e = .returned (.tuple #[.pointer (some ⟨g, 0, none⟩), .int .i64 0]) ∧ Fr [] w w' ∧ w.heap.size ≤ g ∧ w.heap.size ≤ gT ∧ w.heap.size ≤ gH ∧ FreshR w' g gT gH T S H := by
  obtain ⟨t1, t2⟩ := hT
  obtain ⟨s1, s2⟩ := hS
  obtain ⟨i1, hi1, hz1, hs1, hb1⟩ := info_parts frames_info
  obtain ⟨i2, hi2, hz2, hs2, hb2⟩ := info_parts handle_info
  have hm1 : ∀ W : World, (Instr.makeSlice 38 (.int .i64 (T : Int)) (.int .i64 (T : Int))).run Tryz.prog W = .ok (.slice (some ⟨W.heap.size, 0, none⟩) T T) (W.alloc (.cells (Array.replicate T (.slice none 0 0)) 30)) := fun W => by
    have h := run_make_rowN (P := Tryz.prog) 38 30 i1 _ Tryz.underlying38 hi1 hz1 .i64 .i64 T T (Nat.le_refl _) (by rw [hb1]; omega) (by omega) W
    rw [h, hs1, Nat.mul_one]
    rw [show (Value.slice none 0 0).cells = #[.slice none 0 0] from rfl, made_one]
  have hm2 : ∀ W : World, (Instr.makeSlice 82 (.int .i64 (H : Int)) (.int .i64 (H : Int))).run Tryz.prog W = .ok (.slice (some ⟨W.heap.size, 0, none⟩) H H) (W.alloc (.cells (shutH H) 87)) := fun W => by
    have h := run_make_rowN (P := Tryz.prog) 82 87 i2 _ Tryz.underlying82 hi2 hz2 .i64 .i64 H H (Nat.le_refl _) (by rw [hb2]; omega) (by omega) W
    rw [h, hs2]
    rfl
  clear hi1 hz1 hs1 hb1 hi2 hz2 hs2 hb2
  go_enter Tryz.func44, Tryz.ntmps44
  go_upto_region 3 with fail
  go_region
  all_goals go_wp2
  all_goals go_ret2
  · exact ⟨_, w.heap.size, w.heap.size + 1, rfl, ((((Fr.refl _ _).alloc _).alloc _).alloc _).drew, by omega, Nat.le_refl _, by omega,
      ⟨(Bk.new_at _ _ _ _ (by simp)).drew, (((Bk.new w _ _).alloc _).alloc _).drew, ((Bk.new_at _ _ _ _ (by simp)).alloc _).drew, by omega⟩⟩
  · exact ⟨_, w.heap.size + 1, w.heap.size, rfl, ((((Fr.refl _ _).alloc _).alloc _).alloc _).drew, by omega, by omega, Nat.le_refl _,
      ⟨(Bk.new_at _ _ _ _ (by simp)).drew, ((Bk.new_at _ _ _ _ (by simp)).alloc _).drew, (((Bk.new w _ _).alloc _).alloc _).drew, by omega⟩⟩
end Go.Proofs.YtdcppdgnekhcgaaGreatDoor
