/-
  Policy: the walk of PolicyTells.
-/
import Derived.Test.YtdcppdgnekhcgaaGreatDoorPt2
import Derived.Great.BuildSlice
import Derived.Great.Ranges
namespace Go.Proofs.YtdcppdgnekhcgaaGreatDoor
open Go.RowKit Pol
set_option maxRecDepth 100000
set_option linter.unusedVariables false

set_option maxHeartbeats 4000000 in
theorem tells_any (c1 : Nat → Int) (b1 k1 w1 : Int) (A1 : Option Addr) (n1 d1 : Nat) (l1 : List Vw) (c2 : Nat → Int) (b2 k2 w2 : Int) (A2 : Option Addr) (n2 d2 : Nat) (l2 : List Vw) (w : World)
    (hn1 : n1 = l1.length) (hr1 : RdVw w A1 l1) (hw1 : w1 ≤ 9223372036854775807) (hn2 : n2 = l2.length) (hr2 : RdVw w A2 l2) (hw2 : w2 ≤ 9223372036854775807) (hk1 : l1.length ≤ 1048576) (hk2 : l2.length ≤ 1048576) :
    Calls Tryz.prog 3 #[.agg (askA c1 b1 k1 w1 (.slice A1 n1 d1)), .agg (askA c2 b2 k2 w2 (.slice A2 n2 d2))] w fun e w' => e = .returned (.bool true) ∧ Fr [] w w' := by
  have HR1 := Lib.hid hr1
  have HR2 := Lib.hid hr2
  clear hr1 hr2
  obtain ⟨X1, hX1⟩ : ∃ X, X = askA c1 b1 k1 w1 (.slice A1 n1 d1) := ⟨_, rfl⟩
  obtain ⟨X2, hX2⟩ : ∃ X, X = askA c2 b2 k2 w2 (.slice A2 n2 d2) := ⟨_, rfl⟩
  rw [← hX1, ← hX2]
  have HX1 := Lib.hid hX1
  have HX2 := Lib.hid hX2
  clear hX1 hX2
  go_enter Tryz.func3, Tryz.ntmps3
  go_upto_region 1 with fail
  have hA1 : Bk ((w.alloc (.cells X1 26)).alloc (.cells X2 26)) w.heap.size 26 X1 := (Bk.new w _ _).alloc _
  have hA2 : Bk ((w.alloc (.cells X1 26)).alloc (.cells X2 26)) (w.heap.size + 1) 26 X2 := Bk.new_at _ _ _ _ (by simp)
  have hF0 : Fr [] w ((w.alloc (.cells X1 26)).alloc (.cells X2 26)) := ((Fr.refl [] w).alloc _).alloc _
  obtain ⟨z0, hz0⟩ : ∃ z0, z0 = (w.alloc (.cells X1 26)).alloc (.cells X2 26) := ⟨_, rfl⟩
  rw [← hz0] at hA1 hA2 hF0 ⊢
  clear hz0
  have HA1 := Lib.hid hA1
  have HA2 := Lib.hid hA2
  have HF0 := Lib.hid hF0
  have l1t := hA1.lt
  have l2t := hA2.lt
  obtain ⟨gb, hgb⟩ : ∃ gb, z0.heap.size = gb := ⟨_, rfl⟩
  obtain ⟨BB, hBB⟩ : ∃ BB, BB = bookA (S0 gb) := ⟨_, rfl⟩
  clear hA1 hA2 hF0
  refine wp_region_list ?_
  refine wpList_buildTo rfl 43 #[] rfl _ rfl BB (by subst hBB; rw [Array.map_empty]; exact book_built) ?_
  refine Go.Great.wpList_boxTo rfl 43 _ rfl _ rfl gb hgb BB rfl ?_
  obtain ⟨z, hz⟩ : ∃ z, z = z0.alloc (.cells BB 43) := ⟨_, rfl⟩
  rw [← hz]
  have hSg : Sg z0 (bkT z0.heap.size (S0 gb)) z :=
    Sg.book0 (by rw [hz, ← hBB, ← hgb]; exact Bk.new _ _ _) (by omega) (by rw [hz]; exact (Fr.refl _ _).alloc _)
  have HS := Lib.hid hSg
  have HRA1 := Lib.hid (HR1.out.fr HF0.out)
  have HRA2 := Lib.hid (HR2.out.fr HF0.out)
  clear hSg hz hBB hgb
  go_upto_region 2 with fail
  go_wp2_with fail
  refine (known_any _).mono ?_
  rintro e z2 ⟨rfl, hf⟩
  have HS2 := Lib.hid (HS.out.nil hf)
  have HB1 : Hid (Bk z2 w.heap.size 26 X1) := HA1.out.fr HS2.out.fr (by simp)
  clear hf
  go_upto_region 99 with (refine wp_load_row 26 _ rfl w.heap.size rfl 26 X1 (0, 0) _ HB1.out Tryz.underlying26 rfl (by rw [HX1.out]; kernel_rfl) ?_)
  rw [HX1.out]
  refine (told_any 1000 c1 b1 k1 w1 A1 n1 d1 l1 rfl rfl (BLk.start gb 16) HS2.out hn1 HRA1.out hw1 (by omega)).mono ?_
  rintro e z3 ⟨rfl, S3, XW3, K3, e1, e2, e3, e4, e5⟩
  have HS3 := Lib.hid e5
  have HL3 := Lib.hid e4
  have HB2 : Hid (Bk z3 (w.heap.size + 1) 26 X2) := HA2.out.fr HS3.out.fr (by simp)
  clear e4 e5
  rw [← HX1.out]
  go_upto_region 99 with (refine wp_load_row 26 _ rfl (w.heap.size + 1) rfl 26 X2 (0, 0) _ HB2.out Tryz.underlying26 rfl (by rw [HX2.out]; kernel_rfl) ?_)
  rw [HX2.out]
  refine (told_any 500000 c2 b2 k2 w2 A2 n2 d2 l2 e1 e2 HL3.out HS3.out hn2 HRA2.out hw2 (by omega)).mono ?_
  rintro e z4 ⟨rfl, S4, XW4, K4, f1, f2, f3, f4, f5⟩
  have HS4 := Lib.hid f5
  have HL4 := Lib.hid f4
  clear f4 f5
  rw [← HX2.out]
  go_wp2_with fail
  have hH : Calls Tryz.prog 7 #[.pointer (some ⟨gb, 0, none⟩)] z4 fun e w' => e = .returned (.bool true) ∧ Fr [] z4 w' := by
    have f1b : S4.g = gb := f1
    rw [← f1b]
    exact Hold_any z0.heap.size S4 z4 (BLk.hold (Us := []) (by rw [List.append_nil]; exact HS4.out) HL4.out)
  refine (Calls.mono hH ?_)
  rintro e z5 ⟨rfl, hf⟩
  have HFF : Hid (Fr [] w z5) := (HF0.out.trans HS4.out.fr (by simp)).trans hf (by simp)
  clear hf hH
  go_wp2_with fail
  go_ret
  exact ⟨rfl, HFF.out⟩
end Go.Proofs.YtdcppdgnekhcgaaGreatDoor
