/-
  Roots: what is known.
-/
import Derived.Test.YtdcppdgnekhcgaaGreatDoorRtS13
namespace Go.Proofs.YtdcppdgnekhcgaaGreatDoor
open Go.RowKit
set_option maxRecDepth 100000
set_option linter.unusedVariables false

def kA1 : RA := ⟨4, [[], [[0, 0]]], [(false, 0), (false, 0)], []⟩
def kA2 : RA := ⟨4, [[], [[0, 7]]], [(false, 0), (false, 0)], []⟩
def kA3 : RA := ⟨4, [[], [[0, 7]]], [(true, 5), (false, 0)], []⟩
def kA4 : RA := ⟨4, [[], [[0, 7]]], [(true, 5), (false, 0)], [8]⟩
theorem k1 : pushA (newA 2 4 2) 1 2 = (kA1, 0) := rfl
theorem k2 : setA kA1 1 1 7 = (kA2, 0) := rfl
theorem k3 : openA kA2 5 = (kA3, 0, 0) := rfl
theorem k4 : enqA kA3 8 = kA4 := rfl
theorem k5 : rootsA kA4 = [7, 5, 8] := rfl

theorem Lst.rdi {w : World} {b0 : Nat} {A : Option Addr} {n cp : Nat} {l : List Int} (h : Lst w b0 3 1 (.slice A n cp) n (iV l)) (hn : n = l.length) : RdI w A l := by
  obtain ⟨A', cp', hv, h1, h2⟩ := h.look
  injection hv with _ _ hv3
  subst hv3
  refine ⟨by unfold maxLen at h2; omega, fun h0 => ?_⟩
  obtain ⟨g, off, cap, hv, _, hg, _, _, _, _, hc⟩ := h.form (by omega)
  injection hv with hv1 _ _
  exact ⟨g, off, hv1, hg, fun i x hx => hc i _ (iV_at hx)⟩

set_option maxRecDepth 100000 in
set_option maxHeartbeats 3200000 in
theorem known_any (w : World) : Calls Tryz.prog 8 #[] w fun e w' => e = .returned (.bool true) ∧ Fr [] w w' := by
  have HNEW := Lib.hid (new_sn (w0 := w) (w := w) 2 4 2 (by omega) (by omega) (by omega) (Fr.refl _ _))
  go_enter Tryz.func8, Tryz.ntmps8
  go_wp2_with fail
  refine (Calls.mono HNEW.out ?_)
  rintro e w1 ⟨g, F, rfl, hs, _⟩
  have HS := Lib.hid hs
  clear hs HNEW
  go_wp2_with fail
  refine (push_any HS.out.rs HS.out.fr.size 1 2).mono ?_
  intro e w2 hro
  rw [k1] at hro
  obtain ⟨rfl, F2, hs2, _, _⟩ := HS.out.to hro
  have HS2 := Lib.hid hs2
  clear hro hs2 HS
  go_wp2_with fail
  refine (set_any HS2.out.rs HS2.out.fr.size 1 1 7).mono ?_
  intro e w3 hro
  rw [k2] at hro
  obtain ⟨rfl, F3, hs3, _, _⟩ := HS2.out.to hro
  have HS3 := Lib.hid hs3
  clear hro hs3 HS2
  go_wp2_with fail
  refine (open_any HS3.out.rs 5).mono ?_
  intro e w4 hro
  rw [k3] at hro
  obtain ⟨rfl, F4, hs4, _, _⟩ := HS3.out.to hro
  have HS4 := Lib.hid hs4
  clear hro hs4 HS3
  go_wp2_with fail
  refine (enq_any HS4.out.rs HS4.out.fr.size (by show (0 : Nat) ≤ _; omega) 8).mono ?_
  intro e w5 hro
  rw [k4] at hro
  obtain ⟨rfl, F5, hs5, _, _⟩ := HS4.out.to hro
  have HS5 := Lib.hid hs5
  clear hro hs5 HS4
  go_wp2_with fail
  refine (all_any HS5.out.rs HS5.out.fr.size (by show (1 : Nat) ≤ _; omega)).mono ?_
  rintro e w6 ⟨v, rfl, hL, hrs, hfr⟩
  rw [k5] at hL
  obtain ⟨A, cp, rfl, _, _⟩ := hL.look
  have HL := Lib.hid (hL.rdi rfl)
  have HF6 : Hid (Fr [] w w6) := HS5.out.fr.trans hfr (fun x hx => .inr (HS5.out.rs.base x hx))
  clear hL hrs hfr
  go_wp2_with fail
  obtain ⟨z, hz⟩ : ∃ z, z = w6.alloc (.cells #[.int .i64 7, .int .i64 5, .int .i64 8] 3) := ⟨_, rfl⟩
  have hfz : Fr [] w6 z := by rw [hz]; exact (Fr.refl _ _).alloc _
  have HR1 := Lib.hid (HL.out.fr hfz (by simp))
  have HR2 : Hid (RdI z (some ⟨w6.heap.size, 0, none⟩) [7, 5, 8]) := by
    refine ⟨by simp, fun _ => ⟨_, 0, rfl, by rw [hz]; simp, fun i x hx => ?_⟩⟩
    have hb : Bk z w6.heap.size 3 #[.int .i64 7, .int .i64 5, .int .i64 8] := by rw [hz]; exact Bk.new _ _ _
    rw [hb.cell]
    match i, hx with
    | 0, hx => simp at hx; subst hx; rfl
    | 1, hx => simp at hx; subst hx; rfl
    | 2, hx => simp at hx; subst hx; rfl
    | i + 3, hx => simp at hx
  have HFZ := Lib.hid (HF6.out.trans hfz (by simp))
  rw [← hz]
  clear hz hfz
  refine (same_yes A (some ⟨w6.heap.size, 0, none⟩) [7, 5, 8] 3 cp 3 z rfl HR1.out HR2.out).mono ?_
  rintro e w7 ⟨rfl, hf⟩
  have HF7 := Lib.hid (HFZ.out.trans hf (by simp))
  clear hf
  go_wp2_with fail
  go_ret
  exact ⟨rfl, HF7.out⟩
end Go.Proofs.YtdcppdgnekhcgaaGreatDoor
