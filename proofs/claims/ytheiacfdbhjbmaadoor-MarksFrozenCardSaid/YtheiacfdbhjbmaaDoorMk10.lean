/-
  Marks: known.
-/
import Derived.Test.YtheiacfdbhjbmaaDoorMk9
namespace Go.Proofs.YtheiacfdbhjbmaaDoor
open Go.RowKit Mk
set_option linter.unusedVariables false

def knownL : List Int := [3, 4, 6, 2, 64, 1, 65, 70]
def knownF : Nat → Bool := fillF 200 knownL (pairsN knownL)
theorem k_has7 : hasF knownF 200 7 = true := by decide +kernel
theorem k_has8 : hasF knownF 200 8 = false := by decide +kernel
theorem k_cnt : cntI knownF 200 0 200 = 76 := by decide +kernel
theorem k_next : nxtI knownF 200 8 = 64 := by decide +kernel
theorem k_total : cnt (cutF knownF 1 200) 0 (64 * nums 200) = 76 := by decide +kernel
theorem k_to : toI (cutF knownF 1 200) 1 200 1 134 = 76 := by decide +kernel
theorem k_toB : toB (cutF knownF 1 200) 1 200 134 = true := by decide +kernel
theorem k_to8 : toB (cutF knownF 1 200) 1 200 8 = false := by decide +kernel

theorem rdi_block {w : World} {b : Nat} {l : List Int} {t : TypeId} {cs : Array Value} (h : Bk w b t cs) (hcs : cs = (l.map (Value.int .i64)).toArray) (hl : l.length ≤ 9223372036854775807) : RdI w (some ⟨b, 0, none⟩) l :=
  ⟨hl, fun _ => ⟨b, 0, rfl, h.lt, fun i x hx => by
    rw [Nat.zero_add, h.cell i, hcs]
    simp [hx]⟩⟩

set_option maxHeartbeats 1600000 in
theorem known_any (w : World) (hO : On w) : Calls Tryd.prog 12 #[] w fun e w' => e = .returned (.bool true) ∧ Fr [] w w' := by
  have HO := Lib.hid hO
  clear hO
  go_enter Tryd.func12, Tryd.ntmps12
  go_wp2_with fail
  have hf0 : Fr [] w (w.alloc (.cells #[.int .i64 3, .int .i64 4, .int .i64 6, .int .i64 2, .int .i64 64, .int .i64 1, .int .i64 65, .int .i64 70] 3)) := (Fr.refl _ _).alloc _
  refine (filled_some 200 (some ⟨w.heap.size, 0, none⟩) 8 8 knownL _ (by omega) rfl (rdi_block (Bk.new w 3 #[.int .i64 3, .int .i64 4, .int .i64 6, .int .i64 2, .int .i64 64, .int .i64 1, .int .i64 65, .int .i64 70]) rfl (by decide)) (by decide) (HO.out.fr hf0 (by simp))).mono ?_
  rintro e w1 ⟨g, gb, rfl, hfr, hg, hgb, hM⟩
  have HM : Hid (MapIs w1 g gb 200 knownF) := hM
  have HF : Hid (Fr [] w w1) := hf0.trans hfr (by simp)
  have HO1 : Hid (On w1) := HO.out.fr HF.out (by simp)
  clear hfr hg hgb hM hf0
  go_wp2_with fail
  refine (hasm_any g gb 200 knownF 7 w1 HM.out).mono ?_
  rintro e w2 ⟨rfl, rfl⟩
  rw [k_has7]
  go_wp2_with fail
  refine (hasm_any g gb 200 knownF 8 w1 HM.out).mono ?_
  rintro e w2 ⟨rfl, rfl⟩
  rw [k_has8]
  go_wp2_with fail
  refine (countm_any g gb 200 knownF 0 200 w1 HM.out HO1.out).mono ?_
  rintro e w2 ⟨rfl, q2, hw2⟩
  rw [k_cnt]
  have hf2 : Fr [] w1 w2 := by rw [hw2]; exact (Fr.refl _ _).drewN _
  have HM2 := Lib.hid (HM.out.fr hf2 (by simp) (by simp))
  have HF2 := Lib.hid (HF.out.trans hf2 (by simp))
  clear hw2 hf2
  go_wp2_with fail
  refine (nextm_any g gb 200 knownF 8 w2 (by omega) HM2.out).mono ?_
  rintro e w3 ⟨rfl, q3, hw3⟩
  rw [k_next]
  have hf3 : Fr [] w2 w3 := by rw [hw3]; exact (Fr.refl _ _).drewN _
  have HM3 := Lib.hid (HM2.out.fr hf3 (by simp) (by simp))
  have HF3 := Lib.hid (HF2.out.trans hf3 (by simp))
  clear hw3 hf3
  go_wp2_with fail
  refine (slide_is g gb 200 knownF 1 200 1 w3 HM3.out (HO.out.fr HF3.out (by simp)) (by omega) (by omega) (by omega)).mono ?_
  rintro e w4 ⟨gs, bs, cap, sv, rfl, hS, hf4, _, _, _⟩
  have HS := Lib.hid hS
  have HF4 := Lib.hid (HF3.out.trans hf4 (by simp))
  clear hS hf4
  go_wp2_with fail
  refine (num_any 0 w4).mono ?_
  rintro e w5 ⟨rfl, rfl⟩
  go_wp2_with fail
  refine (total_any gs bs 1 200 1 _ cap sv _ w4 HS.out).mono ?_
  rintro e w5 ⟨rfl, rfl⟩
  rw [k_total]
  go_wp2_with fail
  refine (to_any gs bs 1 200 1 _ cap sv _ 134 w4 HS.out (HO.out.fr HF4.out (by simp))).mono ?_
  rintro e w5 ⟨rfl, q5, hw5⟩
  rw [k_to, k_toB]
  have hf5 : Fr [] w4 w5 := by rw [hw5]; exact (Fr.refl _ _).drewN _
  have HS5 := Lib.hid (HS.out.fr hf5 (by simp) (by simp) (by simp))
  have HF5 := Lib.hid (HF4.out.trans hf5 (by simp))
  clear hw5 hf5
  go_wp2_with fail
  refine (to_any gs bs 1 200 1 _ cap sv _ 8 w5 HS5.out (HO.out.fr HF5.out (by simp))).mono ?_
  rintro e w6 ⟨rfl, q6, hw6⟩
  rw [k_to8]
  have hf6 : Fr [] w5 w6 := by rw [hw6]; exact (Fr.refl _ _).drewN _
  have HF6 := Lib.hid (HF5.out.trans hf6 (by simp))
  clear hw6 hf6
  go_wp2_with fail
  go_ret
  exact ⟨rfl, HF6.out⟩
end Go.Proofs.YtheiacfdbhjbmaaDoor
