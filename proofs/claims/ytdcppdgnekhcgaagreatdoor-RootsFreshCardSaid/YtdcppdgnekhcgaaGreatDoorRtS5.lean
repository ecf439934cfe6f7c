/-
  Roots in general: a slot of the top frame: Get and Set.
-/
import Derived.Test.YtdcppdgnekhcgaaGreatDoorRtS4
namespace Go.Proofs.YtdcppdgnekhcgaaGreatDoor
open Go.RowKit
set_option maxRecDepth 100000
set_option linter.unusedVariables false

set_option maxRecDepth 100000 in
set_option maxHeartbeats 1600000 in
theorem top_err {b0 : Nat} {w : World} {g : Nat} {R : Rts} (h : RT b0 w g R) {i s : Int} (hne : topE R.abs i s ≠ 0) :
    Calls Tryz.prog 88 #[.pointer (some ⟨g, 0, none⟩), .int .i64 i, .int .i64 s] w fun e w' => e = .returned (.tuple #[.pointer none, .int .i64 (topE R.abs i s)]) ∧ w = w' := by
  have HH := Lib.hid (h.hasC i w rfl)
  have c1 : w.cell? ⟨g, 1, none⟩ = some (.slice (some ⟨R.gT, 0, none⟩) R.ths.length R.ths.length) := h.B.cell 1
  obtain ⟨o1, o2, o3, o4, o5⟩ := h.ok
  cases hi : inT R.abs i with
  | false =>
    have e : topE R.abs i s = 51 := by unfold topE; rw [if_pos hi]
    rw [hi] at HH
    rw [e]
    clear hi e hne h
    go_enter Tryz.func88, Tryz.ntmps88
    go_wp2_with fail
    refine (Calls.mono HH.out ?_)
    rintro e w' ⟨rfl, rfl⟩
    go_wp2_with fail
    go_ret2
    exact ⟨rfl, rfl⟩
  | true =>
    rw [hi] at HH
    obtain ⟨A, t, B, hth, rfl, hi0, hi1⟩ := inT_split hi
    have hab := abs_at (i := ((A.length : Nat) : Int)) hth rfl
    have ht : t ∈ R.ths := by rw [hth]; simp
    have ct := h.th_at hth
    have hL := h.Fs t ht
    by_cases h0 : t.fs = []
    · have e : topE R.abs ((A.length : Nat) : Int) s = 54 := by
        unfold topE
        rw [if_neg (by rw [hi]; simp), hab, if_pos (by unfold Thr.ls; rw [h0]; rfl)]
      rw [e]
      rw [h0] at hL
      obtain ⟨AA, cp, hv, hcp, hcm⟩ := hL.look
      rw [hv] at ct
      simp only [List.length_nil] at ct
      clear hi e hab hL hv h0 ht hth hne h
      go_enter Tryz.func88, Tryz.ntmps88
      go_wp2_with fail
      refine (Calls.mono HH.out ?_)
      rintro e w' ⟨rfl, rfl⟩
      go_wp2_with fail
      go_ret2
      exact ⟨rfl, rfl⟩
    · obtain ⟨C, f, hC⟩ := last_split h0
      have el : t.ls.getLastD [] = f.l := by unfold Thr.ls; rw [hC]; simp
      have hbad : s < 0 ∨ (f.l.length : Int) ≤ s := by
        unfold topE at hne
        rw [if_neg (by rw [hi]; simp), hab, if_neg (by unfold Thr.ls; rw [hC]; simp), el] at hne
        split at hne
        · assumption
        · exact absurd rfl hne
      have e : topE R.abs ((A.length : Nat) : Int) s = 52 := by
        unfold topE
        rw [if_neg (by rw [hi]; simp), hab, if_neg (by unfold Thr.ls; rw [hC]; simp), el, if_pos hbad]
      rw [e]
      obtain ⟨gb, off, cap, hv, hcf⟩ := h.f_at ht (k := C.length) (f := f) (by rw [hC]; simp)
      have hlen : t.fs.length = C.length + 1 := by rw [hC]; simp
      rw [hv, hlen] at ct
      have hcap := (h.Fs t ht).look
      have hq5 : C.length + 1 ≤ 9223372036854775807 := by
        obtain ⟨_, cp, hv3, h3, h4⟩ := hcap
        rw [hlen] at h3
        unfold maxLen at h4
        omega
      obtain ⟨q, hq⟩ : ∃ q, C.length = q := ⟨_, rfl⟩
      unfold frV at hcf
      obtain ⟨fl, hfl⟩ : ∃ fl, f.l.length = fl := ⟨_, rfl⟩
      rw [hfl] at hcf hbad
      rw [hq] at ct hcf hq5
      have hq2 : IntKind.i64.wrap (((q + 1 : Nat) : Int) - 1) = (q : Int) := by rw [show ((q + 1 : Nat) : Int) - 1 = (q : Int) by omega]; exact IntWalk.i64_in _ (by omega)
      have hz1 : (((q + 1 : Nat) : Int) == 0) = false := by simpa using (show ¬ ((q + 1 : Nat) : Int) = 0 by omega)
      have hq0 : (0 : Int) ≤ (q : Int) := by omega
      have hq3 : (q : Int) < ((q + 1 : Nat) : Int) := by omega
      have hq6 : IntKind.i64.wrap (q : Int) = (q : Int) := IntWalk.i64_in _ (by omega)
      have hz2 : ((q : Int) + 1 == 0) = false := by simpa using (show ¬ (q : Int) + 1 = 0 by omega)
      clear h hi hth ht hv hlen hC hq hfl hcap e hab hL h0 el hne
      by_cases hs : s < 0
      · have k2 : decide (s < 0) = true := decide_eq_true hs
        go_enter Tryz.func88, Tryz.ntmps88
        go_wp2_with fail
        refine (Calls.mono HH.out ?_)
        rintro e w' ⟨rfl, rfl⟩
        go_wp2_with fail
        go_ret2
        exact ⟨rfl, rfl⟩
      · have k2 : decide (s < 0) = false := decide_eq_false hs
        have k3 : decide ((fl : Int) ≤ s) = true := decide_eq_true (by omega)
        go_enter Tryz.func88, Tryz.ntmps88
        go_wp2_with fail
        refine (Calls.mono HH.out ?_)
        rintro e w' ⟨rfl, rfl⟩
        go_wp2_with fail
        go_ret2
        exact ⟨rfl, rfl⟩

set_option maxRecDepth 100000 in
set_option maxHeartbeats 1600000 in
theorem set_any {b0 : Nat} {w : World} {g : Nat} {a : RA} {F : List Nat} (h : RS b0 w g a F) (hb0 : b0 ≤ w.heap.size) (i s x : Int) :
    Calls Tryz.prog 46 #[.pointer (some ⟨g, 0, none⟩), .int .i64 i, .int .i64 s, .int .i64 x] w (RO b0 g (setA a i s x).1 F (.int .i64 (setA a i s x).2) w) := by
  have HRS := Lib.hid h
  obtain ⟨R, hR, rfl, rfl⟩ := h
  by_cases h0 : topE R.abs i s = 0
  · obtain ⟨A, t, B, C, f, k, hT, hi, _⟩ := topE_ok h0
    have HT := Lib.hid (top_ok hR hT hi)
    obtain ⟨hth, rfl, hC, rfl, hk⟩ := hT
    have ht : t ∈ R.ths := by rw [hth]; simp
    have hff : f ∈ t.fs := by rw [hC]; simp
    have e : setA R.abs ((A.length : Nat) : Int) ((k : Nat) : Int) x = ({ R.abs with ths := R.abs.ths.set A.length (C.map Frm.l ++ [f.l.set k (max x 0)]) }, 0) := by
      unfold setA
      rw [if_pos h0, abs_at hth rfl]
      have el : t.ls.getLastD [] = f.l := by unfold Thr.ls; rw [hC]; simp
      have ed : t.ls.dropLast = C.map Frm.l := by unfold Thr.ls; rw [hC]; simp
      rw [el, ed, Int.toNat_natCast, Int.toNat_natCast]
    have hBk := hR.Fr t ht f hff
    have cc : w.cell? ⟨f.b, k, none⟩ = some (.int .i64 f.l[k]) := by
      rw [hBk.cell, List.getElem?_toArray]
      exact iV_at (List.getElem?_eq_getElem hk)
    have cf := hBk.free k
    have hput : ∀ y, Bk (w.setCell ⟨f.b, k, none⟩ (.int .i64 y)) f.b 3 (iV (f.l.set k y)).toArray := fun y => by
      have := hBk.put k (.int .i64 y)
      have e2 : (iV f.l).toArray.setIfInBounds k (.int .i64 y) = (iV (f.l.set k y)).toArray := by unfold iV; rw [List.map_set]; simp
      rw [e2] at this
      exact this
    have HK : Hid (∀ y, RO b0 g { R.abs with ths := R.abs.ths.set A.length (C.map Frm.l ++ [f.l.set k y]) } (R.foot g) (.int .i64 0) w (.returned (.int .i64 0)) (w.setCell ⟨f.b, k, none⟩ (.int .i64 y))) := fun y => by
      have s1 : Fr [f.b] w (w.setCell ⟨f.b, k, none⟩ (.int .i64 y)) := (Fr.refl _ _).setCell (by simp) _
      have key := hR.slot (D := []) (l' := f.l.set k y) s1 (fun z hz _ => by simpa using hz) hb0 hth hC (by simp) (hput y)
      refine ⟨rfl, R.foot g, ⟨_, key.1, ?_, key.2⟩, s1.mono (fun z hz => .inl ?_), fun z hz => .inl hz⟩
      · rw [abs_set hth rfl, Int.toNat_natCast]
        simp [Thr.ls]
      · simp only [List.mem_cons, List.not_mem_nil, or_false] at hz
        exact foot_mem.2 (.inr (.inr (.inr (.inr (.inl ⟨t, ht, f, hff, hz.symm⟩)))))
    rw [e]
    obtain ⟨v0, hv0⟩ : ∃ v0, f.l[k] = v0 := ⟨_, rfl⟩
    rw [hv0] at cc
    have hmx : ∃ y, y = max x 0 := ⟨_, rfl⟩
    clear hR h0 hi hth ht hC e hk hv0 hBk hput hff
    rcases (show 0 ≤ x ∨ x < 0 by omega) with hx | hx
    · have hm : max x 0 = x := by omega
      rw [hm]
      go_enter Tryz.func46, Tryz.ntmps46
      go_wp2_with fail
      refine (Calls.mono HT.out ?_)
      rintro e w' ⟨rfl, rfl⟩
      go_wp2_with fail
      go_ret
      exact HK.out x
    · have hm : max x 0 = 0 := by omega
      rw [hm]
      go_enter Tryz.func46, Tryz.ntmps46
      go_wp2_with fail
      refine (Calls.mono HT.out ?_)
      rintro e w' ⟨rfl, rfl⟩
      go_wp2_with fail
      go_ret
      exact HK.out 0
  · have HT := Lib.hid (top_err hR h0)
    have e : setA R.abs i s x = (R.abs, topE R.abs i s) := by unfold setA; rw [if_neg h0]
    rw [e]
    obtain ⟨c, hc⟩ : ∃ c, topE R.abs i s = c := ⟨_, rfl⟩
    rw [hc] at HT h0 ⊢
    have hb2 : (c == 0) = false := by simpa using h0
    clear hR e hc h0
    go_enter Tryz.func46, Tryz.ntmps46
    go_wp2_with fail
    refine (Calls.mono HT.out ?_)
    rintro e w' ⟨rfl, rfl⟩
    go_wp2_with fail
    go_ret
    exact RO.same HRS.out (Fr.refl _ _)
end Go.Proofs.YtdcppdgnekhcgaaGreatDoor
