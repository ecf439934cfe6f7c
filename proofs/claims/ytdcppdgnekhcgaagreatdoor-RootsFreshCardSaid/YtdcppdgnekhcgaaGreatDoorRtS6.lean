/-
  Roots in general: the handles.
-/
import Derived.Test.YtdcppdgnekhcgaaGreatDoorRtS4
namespace Go.Proofs.YtdcppdgnekhcgaaGreatDoor
open Go.RowKit
set_option maxRecDepth 100000
set_option linter.unusedVariables false

def isOpenA (a : RA) (h : Int) : Bool := decide (0 ≤ h) && decide (h < (a.hs.length : Int)) && (a.hs.getD h.toNat (false, 0)).1
def handleA (a : RA) (h : Int) : Int × Int := if isOpenA a h = true then ((a.hs.getD h.toNat (false, 0)).2, 0) else (0, 55)
def closeA (a : RA) (h : Int) : RA × Int := if isOpenA a h = true then ({ a with hs := a.hs.set h.toNat (false, 0) }, 0) else (a, 55)
def handlesA (a : RA) : List Int := a.hs.map (fun p => if p.1 then p.2 else -1)
def openA (a : RA) (x : Int) : RA × Int × Int := match a.hs.findIdx? (fun p => !p.1) with
  | none => (a, 0, 56)
  | some k => ({ a with hs := a.hs.set k (true, max x 0) }, k, 0)

section
variable {b0 : Nat} {w w' : World} {g : Nat} {R : Rts}
theorem RT.h_at (h : RT b0 w g R) {k : Nat} {p : Bool × Int} (hp : R.hs[k]? = some p) : w.cell? ⟨R.gH, k * 2, none⟩ = some (.bool p.1) ∧ w.cell? ⟨R.gH, k * 2 + 1, none⟩ = some (.int .i64 p.2) := by
  obtain ⟨c1, c2⟩ := hV_at R.hs k p hp
  rw [h.Hd.cell, h.Hd.cell, List.getElem?_toArray, List.getElem?_toArray]
  exact ⟨c1, c2⟩
/-- A handle written. -/
theorem RT.hput (h : RT b0 w g R) (k : Nat) (p : Bool × Int) {r : Value} :
    RO b0 g { R.abs with hs := R.hs.set k p } (R.foot g) r w (.returned r) ((w.setCell ⟨R.gH, k * 2, none⟩ (.bool p.1)).setCell ⟨R.gH, k * 2 + 1, none⟩ (.int .i64 p.2)) := by
  have s1 : Go.Proofs.YtdcppdgnekhcgaaGreatDoor.Fr [R.gH] w ((w.setCell ⟨R.gH, k * 2, none⟩ (.bool p.1)).setCell ⟨R.gH, k * 2 + 1, none⟩ (.int .i64 p.2)) := ((Fr.refl _ _).setCell (by simp) _).setCell (by simp) _
  have hb := (h.Hd.put (k * 2) (.bool p.1)).put (k * 2 + 1) (.int .i64 p.2)
  have e : (((hV R.hs).toArray.setIfInBounds (k * 2) (.bool p.1)).setIfInBounds (k * 2 + 1) (.int .i64 p.2)) = (hV (R.hs.set k p)).toArray := by
    rw [← hV_set]
    simp
  rw [e] at hb
  exact RO.of (r := r) (h.hchange (hs' := R.hs.set k p) s1 (by simp) (by simp) hb)
end

theorem isOpen_any {b0 : Nat} {w : World} {g : Nat} {R : Rts} (hR : RT b0 w g R) (h : Int) (W : World) (h2 : W.cell? ⟨g, 2, none⟩ = w.cell? ⟨g, 2, none⟩) (hW : ∀ i, W.cell? ⟨R.gH, i, none⟩ = w.cell? ⟨R.gH, i, none⟩) :
    Calls Tryz.prog 89 #[.pointer (some ⟨g, 0, none⟩), .int .i64 h] W fun e w' => e = .returned (.bool (isOpenA R.abs h)) ∧ W = w' := by
  have c2 : W.cell? ⟨g, 2, none⟩ = some (.slice (some ⟨R.gH, 0, none⟩) R.hs.length R.hs.length) := h2.trans (hR.B.cell 2)
  have hH := hR.ok.2.2.2.2
  unfold isOpenA Rts.abs
  simp only
  by_cases h0 : 0 ≤ h ∧ h < (R.hs.length : Int)
  · obtain ⟨k, rfl⟩ := Int.eq_ofNat_of_zero_le h0.1
    have hk : k < R.hs.length := by omega
    obtain ⟨p, hp⟩ : ∃ p, R.hs[k]? = some p := ⟨_, List.getElem?_eq_getElem hk⟩
    have ck : W.cell? ⟨R.gH, k * 2, none⟩ = some (.bool p.1) := (hW _).trans (hR.h_at hp).1
    have e : (decide (0 ≤ (k : Int)) && decide ((k : Int) < (R.hs.length : Int)) && (R.hs.getD ((k : Int)).toNat (false, 0)).1) = p.1 := by
      rw [Int.toNat_natCast, List.getD, hp, decide_eq_true h0.1, decide_eq_true h0.2]
      rfl
    rw [e]
    obtain ⟨b, hb⟩ : ∃ b, p.1 = b := ⟨_, rfl⟩
    rw [hb] at ck ⊢
    have d0 : decide (0 ≤ (k : Int)) = true := by simp
    have d1 : (k : Int) < (R.hs.length : Int) := by omega
    clear h0 hR hp e hb h2 hW
    go_enter Tryz.func89, Tryz.ntmps89
    go_wp2
    go_ret
    exact ⟨rfl, rfl⟩
  · clear hR h2 hW
    by_cases h1 : 0 ≤ h
    · have d0 : decide (0 ≤ h) = true := by simpa using h1
      have d1 : decide (h < (R.hs.length : Int)) = false := by simp; omega
      rw [d0, d1]
      go_enter Tryz.func89, Tryz.ntmps89
      go_wp2
      go_ret
      exact ⟨rfl, rfl⟩
    · have d0 : decide (0 ≤ h) = false := by simpa using h1
      rw [d0]
      go_enter Tryz.func89, Tryz.ntmps89
      go_wp2
      go_ret
      exact ⟨rfl, rfl⟩

theorem isOpen_at {R : Rts} {h : Int} (ho : isOpenA R.abs h = true) : ∃ k : Nat, h = (k : Int) ∧ k < R.hs.length ∧ ∃ x, R.hs[k]? = some (true, x) := by
  unfold isOpenA Rts.abs at ho
  simp only [Bool.and_eq_true, decide_eq_true_eq] at ho
  obtain ⟨⟨h1, h2⟩, h3⟩ := ho
  obtain ⟨k, rfl⟩ := Int.eq_ofNat_of_zero_le h1
  have hk : k < R.hs.length := by omega
  refine ⟨k, rfl, hk, R.hs[k].2, ?_⟩
  rw [Int.toNat_natCast, List.getD, List.getElem?_eq_getElem hk] at h3
  rw [List.getElem?_eq_getElem hk, ← h3]
  rfl

set_option maxHeartbeats 800000 in
theorem close_any {b0 : Nat} {w : World} {g : Nat} {a : RA} {F : List Nat} (h : RS b0 w g a F) (n : Int) :
    Calls Tryz.prog 49 #[.pointer (some ⟨g, 0, none⟩), .int .i64 n] w (RO b0 g (closeA a n).1 F (.int .i64 (closeA a n).2) w) := by
  have HRS := Lib.hid h
  obtain ⟨R, hR, rfl, rfl⟩ := h
  have HO := Lib.hid (isOpen_any hR n w rfl (fun _ => rfl))
  have c2 : w.cell? ⟨g, 2, none⟩ = some (.slice (some ⟨R.gH, 0, none⟩) R.hs.length R.hs.length) := hR.B.cell 2
  have hH := hR.ok.2.2.2.2
  cases ho : isOpenA R.abs n with
  | true =>
    rw [ho] at HO
    obtain ⟨k, rfl, hk, x, hx⟩ := isOpen_at ho
    have e : closeA R.abs ((k : Nat) : Int) = ({ R.abs with hs := R.hs.set k (false, 0) }, 0) := by
      unfold closeA
      rw [if_pos ho]
      rfl
    rw [e]
    have ck := (hR.h_at hx).1
    have ck1 := (hR.h_at hx).2
    have fk := hR.Hd.free (k * 2)
    have fk1 := hR.Hd.free (k * 2 + 1)
    have HK := Lib.hid (hR.hput k (false, 0) (r := .int .i64 0))
    have i0 : (0 : Int) ≤ (k : Int) := by omega
    have i1 : (k : Int) < (R.hs.length : Int) := by omega
    clear hR ho hx e
    go_enter Tryz.func49, Tryz.ntmps49
    go_wp2_with fail
    refine (Calls.mono HO.out ?_)
    rintro e w' ⟨rfl, rfl⟩
    go_wp2_with fail
    go_ret
    exact HK.out
  | false =>
    rw [ho] at HO
    have e : closeA R.abs n = (R.abs, 55) := by unfold closeA; rw [if_neg (by rw [ho]; simp)]
    rw [e]
    clear hR ho e
    go_enter Tryz.func49, Tryz.ntmps49
    go_wp2_with fail
    refine (Calls.mono HO.out ?_)
    rintro e w' ⟨rfl, rfl⟩
    go_wp2_with fail
    go_ret
    exact RO.same HRS.out (Fr.refl _ _)
end Go.Proofs.YtdcppdgnekhcgaaGreatDoor
