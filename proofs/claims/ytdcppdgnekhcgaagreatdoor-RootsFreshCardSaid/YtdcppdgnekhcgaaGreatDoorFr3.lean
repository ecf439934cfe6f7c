/-
  Roots: the walk of RootsFresh, but for its last call.
-/
import Derived.Test.YtdcppdgnekhcgaaGreatDoorFr2
import Derived.Great.BuildSlice
import Derived.Great.Ranges
namespace Go.Proofs.YtdcppdgnekhcgaaGreatDoor
open Go.RowKit
set_option maxRecDepth 100000
set_option linter.unusedVariables false

theorem Sg.reindex {w0 w : World} {Ts Us : List (Th w0.heap.size)} (h : Sg w0 Ts w) (f : Nat → Nat) (hf : ∀ (j : Nat) (s : Th w0.heap.size), Us[j]? = some s → Ts[f j]? = some s) (hi : ∀ j k, j ≠ k → j < Us.length → k < Us.length → f j ≠ f k) : Sg w0 Us w :=
  ⟨fun j s hj => h.ok _ s (hf j s hj), fun j k s t hjk hs ht => h.ap _ _ s t (hi j k hjk (List.getElem?_eq_some_iff.1 hs).1 (List.getElem?_eq_some_iff.1 ht).1) (hf j s hs) (hf k t ht), h.fr⟩
theorem Fsh.swap {w0 : World} {gb g : Nat} {a : RA} {K : Nat} {S : BS} {XW : List (Value × List Int)} {F : List Nat} {wr : World} {x1 x2 x3 x4 c1 c2 c3 c4 : Th w0.heap.size} (H : Fsh w0 gb g a K S XW F [x1, x2, x3, x4, c1, c2, c3, c4] wr) :
    Fsh w0 gb g a K S XW F [c1, c2, c3, c4, x1, x2, x3, x4] wr := by
  refine ⟨H.eg, H.ed, H.bl, H.sg.reindex (fun j => if j < 12 then j else if j < 16 then j + 4 else j - 4) (fun j s hj => ?_) (fun j k hjk hj hk => ?_)⟩
  · have hlt : j < 20 := by
      have := (List.getElem?_eq_some_iff.1 hj).1
      rw [List.length_append, bkT_len] at this
      simpa using this
    by_cases e : j < 12
    · rw [if_pos e]
      have h12 : j = 0 ∨ j = 1 ∨ j = 2 ∨ j = 3 ∨ j = 4 ∨ j = 5 ∨ j = 6 ∨ j = 7 ∨ j = 8 ∨ j = 9 ∨ j = 10 ∨ j = 11 := by omega
      rcases h12 with rfl | rfl | rfl | rfl | rfl | rfl | rfl | rfl | rfl | rfl | rfl | rfl <;> exact hj
    · have h12 : j = 12 ∨ j = 13 ∨ j = 14 ∨ j = 15 ∨ j = 16 ∨ j = 17 ∨ j = 18 ∨ j = 19 := by omega
      rcases h12 with rfl | rfl | rfl | rfl | rfl | rfl | rfl | rfl <;> exact hj
  · rw [List.length_append, bkT_len] at hj hk
    simp only [List.length_cons, List.length_nil] at hj hk
    split <;> split <;> (try split) <;> (try split) <;> omega
theorem openA_q (a : RA) (x : Int) : (openA a x).1.q = a.q := by
  unfold openA
  split <;> rfl

set_option maxHeartbeats 4000000 in
theorem fresh_st (T S H : Int) (A : Option Addr) (n c : Nat) (l : List Oq) (w : World) (hT : inI T) (hS : inI S) (hH : inI H) (hn : n = l.length) (hr : RdO w A l)
    (hmany : ∀ W : World, Calls Tryz.prog 19 #[] W fun e w' => e = .returned (.bool true) ∧ Fr [] W w') :
    Calls Tryz.prog 4 #[.int .i64 T, .int .i64 S, .int .i64 H, .slice A n c] w fun e w' => e = .returned (.bool true) ∧ Fr [] w w' := by
  have HG : Hid ((goalA T S H l).q.length ≤ 2200000000000) := by
    have q := playL_q l (newA (1 + placeF T 8).toNat (1 + placeF S 40).toNat (placeF H 12).toNat)
    have e0 : (newA (1 + placeF T 8).toNat (1 + placeF S 40).toNat (placeF H 12).toNat).q = [] := rfl
    rw [e0] at q
    have := hr.1
    show (goalA T S H l).q.length ≤ _
    unfold goalA
    simp only [List.length_nil] at q
    omega
  have HINI := Lib.hid (And.intro hT (And.intro hS hH))
  have HN := Lib.hid hn
  have HR := Lib.hid hr
  have HM := Lib.hid hmany
  clear hT hS hH hn hr hmany
  go_enter Tryz.func4, Tryz.ntmps4
  go_wp2_with fail
  refine (known_any w).mono ?_
  rintro e w1 ⟨rfl, hf1⟩
  have HF1 := Lib.hid hf1
  clear hf1
  go_wp2_with fail
  refine (played_any T S H A n c l w1 w1 HINI.out.1 HINI.out.2.1 HINI.out.2.2 HN.out (HR.out.fr HF1.out) (Fr.refl _ _) (Nat.le_refl _)).mono ?_
  rintro e w2 ⟨g, F2, rfl, hsn, _⟩
  obtain ⟨a2, ha⟩ : ∃ a, goalA T S H l = a := ⟨_, rfl⟩
  rw [ha] at hsn HG
  have HSN := Lib.hid hsn
  clear hsn ha
  go_wp2_with fail
  refine (enq_any HSN.out.rs HSN.out.fr.size (by have := HG.out; omega) 3).mono ?_
  intro e w3 ho
  obtain ⟨rfl, F3, hsn3, _, _⟩ := HSN.out.to ho
  have HSN3 := Lib.hid hsn3
  clear ho hsn3
  go_wp2_with fail
  refine (open_any HSN3.out.rs 4).mono ?_
  intro e w4 ho
  obtain ⟨rfl, F, hsn4, _, _⟩ := HSN3.out.to ho
  have HQ : Hid ((openA (enqA a2 3) 4).1.q.length ≤ 2300000000000) := by
    rw [openA_q]
    unfold enqA
    have := HG.out
    show (a2.q ++ [max 3 0]).length ≤ _
    rw [List.length_append]
    simp only [List.length_cons, List.length_nil]
    omega
  clear ho
  generalize (openA (enqA a2 3) 4).2.1 = oh
  generalize (openA (enqA a2 3) 4).2.2 = oe
  obtain ⟨a, ha⟩ : ∃ a, (openA (enqA a2 3) 4).1 = a := ⟨_, rfl⟩
  rw [ha] at hsn4 HQ
  have HSN4 := Lib.hid hsn4
  clear hsn4 ha HSN HSN3 HG
  have hq23 := HQ.out
  have HB := Lib.hid (rs_bounds HSN4.out.rs HQ.out)
  obtain ⟨gb, hgb⟩ : ∃ gb, w4.heap.size = gb := ⟨_, rfl⟩
  obtain ⟨BB, hBB⟩ : ∃ BB, BB = bookA (S0 gb) := ⟨_, rfl⟩
  clear hq23
  go_upto_region 8 with fail
  refine wp_region_list ?_
  refine wpList_buildTo rfl 43 #[] rfl _ rfl BB (by subst hBB; rw [Array.map_empty]; exact book_built) ?_
  refine Go.Great.wpList_boxTo rfl 43 _ rfl _ rfl gb hgb BB rfl ?_
  obtain ⟨z, hz⟩ : ∃ z, z = w4.alloc (.cells BB 43) := ⟨_, rfl⟩
  rw [← hz]
  have hX : Fsh w1 gb g a (16 * 0) (S0 gb) [] F [] z := by
    have hf : Fr [] w4 z := by rw [hz]; exact (Fr.refl _ _).alloc _
    have h1 := HSN4.out.fr.size
    exact ⟨rfl, rfl, BLk.start gb 4000000000000, Sg.start (t := thRS w1.heap.size g a F) (RS.nil HSN4.out.rs hf) (by rw [hz, ← hBB, ← hgb]; exact Bk.new _ _ _) (by omega) (fun hx => by have := RS.lt HSN4.out.rs gb hx; omega) (HSN4.out.fr.trans hf (by simp))⟩
  have HX0 := Lib.hid hX
  clear hX hz hBB hgb HSN4
  go_upto_region 9 with fail
  go_wp2_with fail
  refine (HX0.out.all (by have := HQ.out; omega)).mono ?_
  rintro e w11 ⟨Ax0, cx0, rfl, hA⟩
  have HX1 : Hid (Fsh w1 gb g a (16 * 0) (S0 gb) [] F [thLst w1.heap.size 3 (.slice Ax0 (rootsA a).length cx0) (bV (rootsA a))] w11) := hA
  clear hA HX0
  go_wp2_with fail
  refine (HX1.out.ask (handles_any HX1.out.rs)).mono ?_
  rintro e w12 ⟨Ax1, cx1, rfl, hA⟩
  have HX2 : Hid (Fsh w1 gb g a (16 * 0) (S0 gb) [] F [thLst w1.heap.size 3 (.slice Ax0 (rootsA a).length cx0) (bV (rootsA a)), thLst w1.heap.size 3 (.slice Ax1 (handlesA a).length cx1) (bV (handlesA a))] w12) := hA
  clear hA HX1
  go_wp2_with fail
  refine (HX2.out.ask (queue_any HX2.out.rs (by have := HQ.out; omega))).mono ?_
  rintro e w13 ⟨Ax2, cx2, rfl, hA⟩
  have HX3 : Hid (Fsh w1 gb g a (16 * 0) (S0 gb) [] F [thLst w1.heap.size 3 (.slice Ax0 (rootsA a).length cx0) (bV (rootsA a)), thLst w1.heap.size 3 (.slice Ax1 (handlesA a).length cx1) (bV (handlesA a)), thLst w1.heap.size 3 (.slice Ax2 (a.q).length cx2) (bV (a.q))] w13) := hA
  clear hA HX2
  go_wp2_with fail
  refine (HX3.out.ask (frames_any HX3.out.rs 0)).mono ?_
  rintro e w14 ⟨Ax3, cx3, rfl, hA⟩
  have HX4 : Hid (Fsh w1 gb g a (16 * 0) (S0 gb) [] F [thLst w1.heap.size 3 (.slice Ax0 (rootsA a).length cx0) (bV (rootsA a)), thLst w1.heap.size 3 (.slice Ax1 (handlesA a).length cx1) (bV (handlesA a)), thLst w1.heap.size 3 (.slice Ax2 (a.q).length cx2) (bV (a.q)), thLst w1.heap.size 3 (.slice Ax3 (framesA a 0).length cx3) (bV (framesA a 0))] w14) := hA
  clear hA HX3
  go_wp2_with fail
  refine (HX4.out.ask (copied_any _ (HX4.out.lst (i := 0) rfl) (by have := HB.out.1; omega))).mono ?_
  rintro e w15 ⟨Ac0, cc0, rfl, hA⟩
  have HX5 : Hid (Fsh w1 gb g a (16 * 0) (S0 gb) [] F [thLst w1.heap.size 3 (.slice Ax0 (rootsA a).length cx0) (bV (rootsA a)), thLst w1.heap.size 3 (.slice Ax1 (handlesA a).length cx1) (bV (handlesA a)), thLst w1.heap.size 3 (.slice Ax2 (a.q).length cx2) (bV (a.q)), thLst w1.heap.size 3 (.slice Ax3 (framesA a 0).length cx3) (bV (framesA a 0)), thLst w1.heap.size 3 (.slice Ac0 (rootsA a).length cc0) (bV (rootsA a))] w15) := hA
  clear hA HX4
  go_wp2_with fail
  refine (HX5.out.ask (copied_any _ (HX5.out.lst (i := 1) rfl) (by have := HB.out.2.1; omega))).mono ?_
  rintro e w16 ⟨Ac1, cc1, rfl, hA⟩
  have HX6 : Hid (Fsh w1 gb g a (16 * 0) (S0 gb) [] F [thLst w1.heap.size 3 (.slice Ax0 (rootsA a).length cx0) (bV (rootsA a)), thLst w1.heap.size 3 (.slice Ax1 (handlesA a).length cx1) (bV (handlesA a)), thLst w1.heap.size 3 (.slice Ax2 (a.q).length cx2) (bV (a.q)), thLst w1.heap.size 3 (.slice Ax3 (framesA a 0).length cx3) (bV (framesA a 0)), thLst w1.heap.size 3 (.slice Ac0 (rootsA a).length cc0) (bV (rootsA a)), thLst w1.heap.size 3 (.slice Ac1 (handlesA a).length cc1) (bV (handlesA a))] w16) := hA
  clear hA HX5
  go_wp2_with fail
  refine (HX6.out.ask (copied_any _ (HX6.out.lst (i := 2) rfl) (by have := HB.out.2.2.1; omega))).mono ?_
  rintro e w17 ⟨Ac2, cc2, rfl, hA⟩
  have HX7 : Hid (Fsh w1 gb g a (16 * 0) (S0 gb) [] F [thLst w1.heap.size 3 (.slice Ax0 (rootsA a).length cx0) (bV (rootsA a)), thLst w1.heap.size 3 (.slice Ax1 (handlesA a).length cx1) (bV (handlesA a)), thLst w1.heap.size 3 (.slice Ax2 (a.q).length cx2) (bV (a.q)), thLst w1.heap.size 3 (.slice Ax3 (framesA a 0).length cx3) (bV (framesA a 0)), thLst w1.heap.size 3 (.slice Ac0 (rootsA a).length cc0) (bV (rootsA a)), thLst w1.heap.size 3 (.slice Ac1 (handlesA a).length cc1) (bV (handlesA a)), thLst w1.heap.size 3 (.slice Ac2 (a.q).length cc2) (bV (a.q))] w17) := hA
  clear hA HX6
  go_wp2_with fail
  refine (HX7.out.ask (copied_any _ (HX7.out.lst (i := 3) rfl) (by have := HB.out.2.2.2; omega))).mono ?_
  rintro e w18 ⟨Ac3, cc3, rfl, hA⟩
  have HX8 : Hid (Fsh w1 gb g a (16 * 0) (S0 gb) [] F [thLst w1.heap.size 3 (.slice Ax0 (rootsA a).length cx0) (bV (rootsA a)), thLst w1.heap.size 3 (.slice Ax1 (handlesA a).length cx1) (bV (handlesA a)), thLst w1.heap.size 3 (.slice Ax2 (a.q).length cx2) (bV (a.q)), thLst w1.heap.size 3 (.slice Ax3 (framesA a 0).length cx3) (bV (framesA a 0)), thLst w1.heap.size 3 (.slice Ac0 (rootsA a).length cc0) (bV (rootsA a)), thLst w1.heap.size 3 (.slice Ac1 (handlesA a).length cc1) (bV (handlesA a)), thLst w1.heap.size 3 (.slice Ac2 (a.q).length cc2) (bV (a.q)), thLst w1.heap.size 3 (.slice Ac3 (framesA a 0).length cc3) (bV (framesA a 0))] w18) := hA
  clear hA HX7
  have HL := Lib.hid (Fsh.swap HX8.out)
  clear HX8
  go_upto_region 11 with fail
  go_wp2_with fail
  go_loopw [12, 13, 14, 15, 20] (fun v0 v1 v2 v3 i wr => ∃ X0 Xc0 X1 Xc1 X2 Xc2 X3 Xc3, v0 = (.slice X0 (rootsA a).length Xc0) ∧ v1 = (.slice X1 (handlesA a).length Xc1) ∧ v2 = (.slice X2 (a.q).length Xc2) ∧ v3 = (.slice X3 (framesA a 0).length Xc3) ∧ ∃ k : Nat, k ≤ 6 ∧ i = .int .i64 k ∧ Hid (∃ S XW, Fsh w1 gb g a (16 * k) S XW F [thLst w1.heap.size 3 (.slice Ac0 (rootsA a).length cc0) (bV (rootsA a)), thLst w1.heap.size 3 (.slice Ac1 (handlesA a).length cc1) (bV (handlesA a)), thLst w1.heap.size 3 (.slice Ac2 (a.q).length cc2) (bV (a.q)), thLst w1.heap.size 3 (.slice Ac3 (framesA a 0).length cc3) (bV (framesA a 0)), thLst w1.heap.size 3 (.slice X0 (rootsA a).length Xc0) (bV (rootsA a)), thLst w1.heap.size 3 (.slice X1 (handlesA a).length Xc1) (bV (handlesA a)), thLst w1.heap.size 3 (.slice X2 (a.q).length Xc2) (bV (a.q)), thLst w1.heap.size 3 (.slice X3 (framesA a 0).length Xc3) (bV (framesA a 0))] wr)) (fun _ _ _ _ i _ => 6 - (intOf i).toNat)
  case atStart => exact ⟨_, _, _, _, _, _, _, _, rfl, rfl, rfl, rfl, 0, by omega, rfl, _, _, HL.out⟩
  case round =>
    obtain ⟨X0, Xc0, X1, Xc1, X2, Xc2, X3, Xc3, rfl, rfl, rfl, rfl, k, hk, rfl, hx⟩ := hrel
    obtain ⟨S2, XW2, hF⟩ := hx.out
    have HY := Lib.hid hF
    clear hF hx HL
    by_cases hlt : k < 6
    · skip
      go_wp2_with fail
      refine (HY.out.all (by have := HQ.out; omega)).mono ?_
      rintro e w19 ⟨Ay0, cy0, rfl, hA⟩
      have HX9 : Hid (Fsh w1 gb g a (16 * k) S2 XW2 F [thLst w1.heap.size 3 (.slice Ac0 (rootsA a).length cc0) (bV (rootsA a)), thLst w1.heap.size 3 (.slice Ac1 (handlesA a).length cc1) (bV (handlesA a)), thLst w1.heap.size 3 (.slice Ac2 (a.q).length cc2) (bV (a.q)), thLst w1.heap.size 3 (.slice Ac3 (framesA a 0).length cc3) (bV (framesA a 0)), thLst w1.heap.size 3 (.slice X0 (rootsA a).length Xc0) (bV (rootsA a)), thLst w1.heap.size 3 (.slice X1 (handlesA a).length Xc1) (bV (handlesA a)), thLst w1.heap.size 3 (.slice X2 (a.q).length Xc2) (bV (a.q)), thLst w1.heap.size 3 (.slice X3 (framesA a 0).length Xc3) (bV (framesA a 0)), thLst w1.heap.size 3 (.slice Ay0 (rootsA a).length cy0) (bV (rootsA a))] w19) := hA
      clear hA HY
      go_wp2_with fail
      refine (HX9.out.ask (handles_any HX9.out.rs)).mono ?_
      rintro e w20 ⟨Ay1, cy1, rfl, hA⟩
      have HX10 : Hid (Fsh w1 gb g a (16 * k) S2 XW2 F [thLst w1.heap.size 3 (.slice Ac0 (rootsA a).length cc0) (bV (rootsA a)), thLst w1.heap.size 3 (.slice Ac1 (handlesA a).length cc1) (bV (handlesA a)), thLst w1.heap.size 3 (.slice Ac2 (a.q).length cc2) (bV (a.q)), thLst w1.heap.size 3 (.slice Ac3 (framesA a 0).length cc3) (bV (framesA a 0)), thLst w1.heap.size 3 (.slice X0 (rootsA a).length Xc0) (bV (rootsA a)), thLst w1.heap.size 3 (.slice X1 (handlesA a).length Xc1) (bV (handlesA a)), thLst w1.heap.size 3 (.slice X2 (a.q).length Xc2) (bV (a.q)), thLst w1.heap.size 3 (.slice X3 (framesA a 0).length Xc3) (bV (framesA a 0)), thLst w1.heap.size 3 (.slice Ay0 (rootsA a).length cy0) (bV (rootsA a)), thLst w1.heap.size 3 (.slice Ay1 (handlesA a).length cy1) (bV (handlesA a))] w20) := hA
      clear hA HX9
      go_wp2_with fail
      refine (HX10.out.ask (queue_any HX10.out.rs (by have := HQ.out; omega))).mono ?_
      rintro e w21 ⟨Ay2, cy2, rfl, hA⟩
      have HX11 : Hid (Fsh w1 gb g a (16 * k) S2 XW2 F [thLst w1.heap.size 3 (.slice Ac0 (rootsA a).length cc0) (bV (rootsA a)), thLst w1.heap.size 3 (.slice Ac1 (handlesA a).length cc1) (bV (handlesA a)), thLst w1.heap.size 3 (.slice Ac2 (a.q).length cc2) (bV (a.q)), thLst w1.heap.size 3 (.slice Ac3 (framesA a 0).length cc3) (bV (framesA a 0)), thLst w1.heap.size 3 (.slice X0 (rootsA a).length Xc0) (bV (rootsA a)), thLst w1.heap.size 3 (.slice X1 (handlesA a).length Xc1) (bV (handlesA a)), thLst w1.heap.size 3 (.slice X2 (a.q).length Xc2) (bV (a.q)), thLst w1.heap.size 3 (.slice X3 (framesA a 0).length Xc3) (bV (framesA a 0)), thLst w1.heap.size 3 (.slice Ay0 (rootsA a).length cy0) (bV (rootsA a)), thLst w1.heap.size 3 (.slice Ay1 (handlesA a).length cy1) (bV (handlesA a)), thLst w1.heap.size 3 (.slice Ay2 (a.q).length cy2) (bV (a.q))] w21) := hA
      clear hA HX10
      go_wp2_with fail
      refine (HX11.out.ask (frames_any HX11.out.rs 0)).mono ?_
      rintro e w22 ⟨Ay3, cy3, rfl, hA⟩
      have HX12 : Hid (Fsh w1 gb g a (16 * k) S2 XW2 F [thLst w1.heap.size 3 (.slice Ac0 (rootsA a).length cc0) (bV (rootsA a)), thLst w1.heap.size 3 (.slice Ac1 (handlesA a).length cc1) (bV (handlesA a)), thLst w1.heap.size 3 (.slice Ac2 (a.q).length cc2) (bV (a.q)), thLst w1.heap.size 3 (.slice Ac3 (framesA a 0).length cc3) (bV (framesA a 0)), thLst w1.heap.size 3 (.slice X0 (rootsA a).length Xc0) (bV (rootsA a)), thLst w1.heap.size 3 (.slice X1 (handlesA a).length Xc1) (bV (handlesA a)), thLst w1.heap.size 3 (.slice X2 (a.q).length Xc2) (bV (a.q)), thLst w1.heap.size 3 (.slice X3 (framesA a 0).length Xc3) (bV (framesA a 0)), thLst w1.heap.size 3 (.slice Ay0 (rootsA a).length cy0) (bV (rootsA a)), thLst w1.heap.size 3 (.slice Ay1 (handlesA a).length cy1) (bV (handlesA a)), thLst w1.heap.size 3 (.slice Ay2 (a.q).length cy2) (bV (a.q)), thLst w1.heap.size 3 (.slice Ay3 (framesA a 0).length cy3) (bV (framesA a 0))] w22) := hA
      clear hA HX11
      go_wp2_with fail
      refine (HX12.out.ints (j := 4) _ rfl rfl (by have := HB.out.1; omega) (by omega)).mono ?_
      rintro e w23 ⟨rfl, S13, XW13, hA⟩
      have HX13 : Hid (Fsh w1 gb g a (16 * k + 2) S13 XW13 F [thLst w1.heap.size 3 (.slice Ac0 (rootsA a).length cc0) (bV (rootsA a)), thLst w1.heap.size 3 (.slice Ac1 (handlesA a).length cc1) (bV (handlesA a)), thLst w1.heap.size 3 (.slice Ac2 (a.q).length cc2) (bV (a.q)), thLst w1.heap.size 3 (.slice Ac3 (framesA a 0).length cc3) (bV (framesA a 0)), thLst w1.heap.size 3 (.slice X1 (handlesA a).length Xc1) (bV (handlesA a)), thLst w1.heap.size 3 (.slice X2 (a.q).length Xc2) (bV (a.q)), thLst w1.heap.size 3 (.slice X3 (framesA a 0).length Xc3) (bV (framesA a 0)), thLst w1.heap.size 3 (.slice Ay0 (rootsA a).length cy0) (bV (rootsA a)), thLst w1.heap.size 3 (.slice Ay1 (handlesA a).length cy1) (bV (handlesA a)), thLst w1.heap.size 3 (.slice Ay2 (a.q).length cy2) (bV (a.q)), thLst w1.heap.size 3 (.slice Ay3 (framesA a 0).length cy3) (bV (framesA a 0))] w23) := hA
      clear hA HX12
      go_wp2_with fail
      refine (HX13.out.ints (j := 4) _ rfl rfl (by have := HB.out.2.1; omega) (by omega)).mono ?_
      rintro e w24 ⟨rfl, S14, XW14, hA⟩
      have HX14 : Hid (Fsh w1 gb g a (16 * k + 2 + 2) S14 XW14 F [thLst w1.heap.size 3 (.slice Ac0 (rootsA a).length cc0) (bV (rootsA a)), thLst w1.heap.size 3 (.slice Ac1 (handlesA a).length cc1) (bV (handlesA a)), thLst w1.heap.size 3 (.slice Ac2 (a.q).length cc2) (bV (a.q)), thLst w1.heap.size 3 (.slice Ac3 (framesA a 0).length cc3) (bV (framesA a 0)), thLst w1.heap.size 3 (.slice X2 (a.q).length Xc2) (bV (a.q)), thLst w1.heap.size 3 (.slice X3 (framesA a 0).length Xc3) (bV (framesA a 0)), thLst w1.heap.size 3 (.slice Ay0 (rootsA a).length cy0) (bV (rootsA a)), thLst w1.heap.size 3 (.slice Ay1 (handlesA a).length cy1) (bV (handlesA a)), thLst w1.heap.size 3 (.slice Ay2 (a.q).length cy2) (bV (a.q)), thLst w1.heap.size 3 (.slice Ay3 (framesA a 0).length cy3) (bV (framesA a 0))] w24) := hA
      clear hA HX13
      go_wp2_with fail
      refine (HX14.out.ints (j := 4) _ rfl rfl (by have := HB.out.2.2.1; omega) (by omega)).mono ?_
      rintro e w25 ⟨rfl, S15, XW15, hA⟩
      have HX15 : Hid (Fsh w1 gb g a (16 * k + 2 + 2 + 2) S15 XW15 F [thLst w1.heap.size 3 (.slice Ac0 (rootsA a).length cc0) (bV (rootsA a)), thLst w1.heap.size 3 (.slice Ac1 (handlesA a).length cc1) (bV (handlesA a)), thLst w1.heap.size 3 (.slice Ac2 (a.q).length cc2) (bV (a.q)), thLst w1.heap.size 3 (.slice Ac3 (framesA a 0).length cc3) (bV (framesA a 0)), thLst w1.heap.size 3 (.slice X3 (framesA a 0).length Xc3) (bV (framesA a 0)), thLst w1.heap.size 3 (.slice Ay0 (rootsA a).length cy0) (bV (rootsA a)), thLst w1.heap.size 3 (.slice Ay1 (handlesA a).length cy1) (bV (handlesA a)), thLst w1.heap.size 3 (.slice Ay2 (a.q).length cy2) (bV (a.q)), thLst w1.heap.size 3 (.slice Ay3 (framesA a 0).length cy3) (bV (framesA a 0))] w25) := hA
      clear hA HX14
      go_wp2_with fail
      refine (HX15.out.ints (j := 4) _ rfl rfl (by have := HB.out.2.2.2; omega) (by omega)).mono ?_
      rintro e w26 ⟨rfl, S16, XW16, hA⟩
      have HX16 : Hid (Fsh w1 gb g a (16 * k + 2 + 2 + 2 + 2) S16 XW16 F [thLst w1.heap.size 3 (.slice Ac0 (rootsA a).length cc0) (bV (rootsA a)), thLst w1.heap.size 3 (.slice Ac1 (handlesA a).length cc1) (bV (handlesA a)), thLst w1.heap.size 3 (.slice Ac2 (a.q).length cc2) (bV (a.q)), thLst w1.heap.size 3 (.slice Ac3 (framesA a 0).length cc3) (bV (framesA a 0)), thLst w1.heap.size 3 (.slice Ay0 (rootsA a).length cy0) (bV (rootsA a)), thLst w1.heap.size 3 (.slice Ay1 (handlesA a).length cy1) (bV (handlesA a)), thLst w1.heap.size 3 (.slice Ay2 (a.q).length cy2) (bV (a.q)), thLst w1.heap.size 3 (.slice Ay3 (framesA a 0).length cy3) (bV (framesA a 0))] w26) := hA
      clear hA HX15
      go_wp2_with fail
      refine (HX16.out.hold).mono ?_
      rintro e w27 ⟨rfl, hf⟩
      have HX17 := Lib.hid (HX16.out.quiet hf)
      clear hf HX16
      go_wp2_with fail
      refine (same_yes Ay0 Ac0 (rootsA a) _ cy0 cc0 _ rfl (HX17.out.same (i := 4) (j := 0) rfl rfl).1 (HX17.out.same (i := 4) (j := 0) rfl rfl).2).mono ?_
      rintro e w28 ⟨rfl, hf⟩
      have HX18 := Lib.hid (HX17.out.quiet hf)
      clear hf HX17
      go_wp2_with fail
      refine (same_yes Ay1 Ac1 (handlesA a) _ cy1 cc1 _ rfl (HX18.out.same (i := 5) (j := 1) rfl rfl).1 (HX18.out.same (i := 5) (j := 1) rfl rfl).2).mono ?_
      rintro e w29 ⟨rfl, hf⟩
      have HX19 := Lib.hid (HX18.out.quiet hf)
      clear hf HX18
      go_wp2_with fail
      refine (same_yes Ay2 Ac2 (a.q) _ cy2 cc2 _ rfl (HX19.out.same (i := 6) (j := 2) rfl rfl).1 (HX19.out.same (i := 6) (j := 2) rfl rfl).2).mono ?_
      rintro e w30 ⟨rfl, hf⟩
      have HX20 := Lib.hid (HX19.out.quiet hf)
      clear hf HX19
      go_wp2_with fail
      refine (same_yes Ay3 Ac3 (framesA a 0) _ cy3 cc3 _ rfl (HX20.out.same (i := 7) (j := 3) rfl rfl).1 (HX20.out.same (i := 7) (j := 3) rfl rfl).2).mono ?_
      rintro e w31 ⟨rfl, hf⟩
      have HX21 := Lib.hid (HX20.out.quiet hf)
      clear hf HX20
      go_wp2_with fail
      refine (HX21.out.ints (j := 4) _ rfl rfl (by have := HB.out.1; omega) (by omega)).mono ?_
      rintro e w32 ⟨rfl, S22, XW22, hA⟩
      have HX22 : Hid (Fsh w1 gb g a (16 * k + 2 + 2 + 2 + 2 + 2) S22 XW22 F [thLst w1.heap.size 3 (.slice Ac0 (rootsA a).length cc0) (bV (rootsA a)), thLst w1.heap.size 3 (.slice Ac1 (handlesA a).length cc1) (bV (handlesA a)), thLst w1.heap.size 3 (.slice Ac2 (a.q).length cc2) (bV (a.q)), thLst w1.heap.size 3 (.slice Ac3 (framesA a 0).length cc3) (bV (framesA a 0)), thLst w1.heap.size 3 (.slice Ay1 (handlesA a).length cy1) (bV (handlesA a)), thLst w1.heap.size 3 (.slice Ay2 (a.q).length cy2) (bV (a.q)), thLst w1.heap.size 3 (.slice Ay3 (framesA a 0).length cy3) (bV (framesA a 0))] w32) := hA
      clear hA HX21
      go_wp2_with fail
      refine (HX22.out.ints (j := 4) _ rfl rfl (by have := HB.out.2.1; omega) (by omega)).mono ?_
      rintro e w33 ⟨rfl, S23, XW23, hA⟩
      have HX23 : Hid (Fsh w1 gb g a (16 * k + 2 + 2 + 2 + 2 + 2 + 2) S23 XW23 F [thLst w1.heap.size 3 (.slice Ac0 (rootsA a).length cc0) (bV (rootsA a)), thLst w1.heap.size 3 (.slice Ac1 (handlesA a).length cc1) (bV (handlesA a)), thLst w1.heap.size 3 (.slice Ac2 (a.q).length cc2) (bV (a.q)), thLst w1.heap.size 3 (.slice Ac3 (framesA a 0).length cc3) (bV (framesA a 0)), thLst w1.heap.size 3 (.slice Ay2 (a.q).length cy2) (bV (a.q)), thLst w1.heap.size 3 (.slice Ay3 (framesA a 0).length cy3) (bV (framesA a 0))] w33) := hA
      clear hA HX22
      go_wp2_with fail
      refine (HX23.out.ints (j := 4) _ rfl rfl (by have := HB.out.2.2.1; omega) (by omega)).mono ?_
      rintro e w34 ⟨rfl, S24, XW24, hA⟩
      have HX24 : Hid (Fsh w1 gb g a (16 * k + 2 + 2 + 2 + 2 + 2 + 2 + 2) S24 XW24 F [thLst w1.heap.size 3 (.slice Ac0 (rootsA a).length cc0) (bV (rootsA a)), thLst w1.heap.size 3 (.slice Ac1 (handlesA a).length cc1) (bV (handlesA a)), thLst w1.heap.size 3 (.slice Ac2 (a.q).length cc2) (bV (a.q)), thLst w1.heap.size 3 (.slice Ac3 (framesA a 0).length cc3) (bV (framesA a 0)), thLst w1.heap.size 3 (.slice Ay3 (framesA a 0).length cy3) (bV (framesA a 0))] w34) := hA
      clear hA HX23
      go_wp2_with fail
      refine (HX24.out.ints (j := 4) _ rfl rfl (by have := HB.out.2.2.2; omega) (by omega)).mono ?_
      rintro e w35 ⟨rfl, S25, XW25, hA⟩
      have HX25 : Hid (Fsh w1 gb g a (16 * k + 2 + 2 + 2 + 2 + 2 + 2 + 2 + 2) S25 XW25 F [thLst w1.heap.size 3 (.slice Ac0 (rootsA a).length cc0) (bV (rootsA a)), thLst w1.heap.size 3 (.slice Ac1 (handlesA a).length cc1) (bV (handlesA a)), thLst w1.heap.size 3 (.slice Ac2 (a.q).length cc2) (bV (a.q)), thLst w1.heap.size 3 (.slice Ac3 (framesA a 0).length cc3) (bV (framesA a 0))] w35) := hA
      clear hA HX24
      go_wp2_with fail
      refine (HX25.out.all (by have := HQ.out; omega)).mono ?_
      rintro e w36 ⟨Az0, cz0, rfl, hA⟩
      have HX26 : Hid (Fsh w1 gb g a (16 * k + 2 + 2 + 2 + 2 + 2 + 2 + 2 + 2) S25 XW25 F [thLst w1.heap.size 3 (.slice Ac0 (rootsA a).length cc0) (bV (rootsA a)), thLst w1.heap.size 3 (.slice Ac1 (handlesA a).length cc1) (bV (handlesA a)), thLst w1.heap.size 3 (.slice Ac2 (a.q).length cc2) (bV (a.q)), thLst w1.heap.size 3 (.slice Ac3 (framesA a 0).length cc3) (bV (framesA a 0)), thLst w1.heap.size 3 (.slice Az0 (rootsA a).length cz0) (bV (rootsA a))] w36) := hA
      clear hA HX25
      go_wp2_with fail
      refine (HX26.out.ask (handles_any HX26.out.rs)).mono ?_
      rintro e w37 ⟨Az1, cz1, rfl, hA⟩
      have HX27 : Hid (Fsh w1 gb g a (16 * k + 2 + 2 + 2 + 2 + 2 + 2 + 2 + 2) S25 XW25 F [thLst w1.heap.size 3 (.slice Ac0 (rootsA a).length cc0) (bV (rootsA a)), thLst w1.heap.size 3 (.slice Ac1 (handlesA a).length cc1) (bV (handlesA a)), thLst w1.heap.size 3 (.slice Ac2 (a.q).length cc2) (bV (a.q)), thLst w1.heap.size 3 (.slice Ac3 (framesA a 0).length cc3) (bV (framesA a 0)), thLst w1.heap.size 3 (.slice Az0 (rootsA a).length cz0) (bV (rootsA a)), thLst w1.heap.size 3 (.slice Az1 (handlesA a).length cz1) (bV (handlesA a))] w37) := hA
      clear hA HX26
      go_wp2_with fail
      refine (HX27.out.ask (queue_any HX27.out.rs (by have := HQ.out; omega))).mono ?_
      rintro e w38 ⟨Az2, cz2, rfl, hA⟩
      have HX28 : Hid (Fsh w1 gb g a (16 * k + 2 + 2 + 2 + 2 + 2 + 2 + 2 + 2) S25 XW25 F [thLst w1.heap.size 3 (.slice Ac0 (rootsA a).length cc0) (bV (rootsA a)), thLst w1.heap.size 3 (.slice Ac1 (handlesA a).length cc1) (bV (handlesA a)), thLst w1.heap.size 3 (.slice Ac2 (a.q).length cc2) (bV (a.q)), thLst w1.heap.size 3 (.slice Ac3 (framesA a 0).length cc3) (bV (framesA a 0)), thLst w1.heap.size 3 (.slice Az0 (rootsA a).length cz0) (bV (rootsA a)), thLst w1.heap.size 3 (.slice Az1 (handlesA a).length cz1) (bV (handlesA a)), thLst w1.heap.size 3 (.slice Az2 (a.q).length cz2) (bV (a.q))] w38) := hA
      clear hA HX27
      go_wp2_with fail
      refine (HX28.out.ask (frames_any HX28.out.rs 0)).mono ?_
      rintro e w39 ⟨Az3, cz3, rfl, hA⟩
      have HX29 : Hid (Fsh w1 gb g a (16 * k + 2 + 2 + 2 + 2 + 2 + 2 + 2 + 2) S25 XW25 F [thLst w1.heap.size 3 (.slice Ac0 (rootsA a).length cc0) (bV (rootsA a)), thLst w1.heap.size 3 (.slice Ac1 (handlesA a).length cc1) (bV (handlesA a)), thLst w1.heap.size 3 (.slice Ac2 (a.q).length cc2) (bV (a.q)), thLst w1.heap.size 3 (.slice Ac3 (framesA a 0).length cc3) (bV (framesA a 0)), thLst w1.heap.size 3 (.slice Az0 (rootsA a).length cz0) (bV (rootsA a)), thLst w1.heap.size 3 (.slice Az1 (handlesA a).length cz1) (bV (handlesA a)), thLst w1.heap.size 3 (.slice Az2 (a.q).length cz2) (bV (a.q)), thLst w1.heap.size 3 (.slice Az3 (framesA a 0).length cz3) (bV (framesA a 0))] w39) := hA
      clear hA HX28
      go_wp2_with fail
      refine (HX29.out.hold).mono ?_
      rintro e w40 ⟨rfl, hf⟩
      have HX30 := Lib.hid (HX29.out.quiet hf)
      clear hf HX29
      go_wp2_with fail
      refine (same_yes Az0 Ac0 (rootsA a) _ cz0 cc0 _ rfl (HX30.out.same (i := 4) (j := 0) rfl rfl).1 (HX30.out.same (i := 4) (j := 0) rfl rfl).2).mono ?_
      rintro e w41 ⟨rfl, hf⟩
      have HX31 := Lib.hid (HX30.out.quiet hf)
      clear hf HX30
      go_wp2_with fail
      refine (same_yes Az1 Ac1 (handlesA a) _ cz1 cc1 _ rfl (HX31.out.same (i := 5) (j := 1) rfl rfl).1 (HX31.out.same (i := 5) (j := 1) rfl rfl).2).mono ?_
      rintro e w42 ⟨rfl, hf⟩
      have HX32 := Lib.hid (HX31.out.quiet hf)
      clear hf HX31
      go_wp2_with fail
      refine (same_yes Az2 Ac2 (a.q) _ cz2 cc2 _ rfl (HX32.out.same (i := 6) (j := 2) rfl rfl).1 (HX32.out.same (i := 6) (j := 2) rfl rfl).2).mono ?_
      rintro e w43 ⟨rfl, hf⟩
      have HX33 := Lib.hid (HX32.out.quiet hf)
      clear hf HX32
      go_wp2_with fail
      refine (same_yes Az3 Ac3 (framesA a 0) _ cz3 cc3 _ rfl (HX33.out.same (i := 7) (j := 3) rfl rfl).1 (HX33.out.same (i := 7) (j := 3) rfl rfl).2).mono ?_
      rintro e w44 ⟨rfl, hf⟩
      have HX34 := Lib.hid (HX33.out.quiet hf)
      clear hf HX33
      go_wp2_with fail
      have hK : 16 * k + 2 + 2 + 2 + 2 + 2 + 2 + 2 + 2 = 16 * (k + 1) := by omega
      have hE := HX34.out
      rw [hK] at hE
      have HE := Lib.hid hE
      clear hE hK HX34
      go_roundw
      case rel => exact ⟨_, _, _, _, _, _, _, _, rfl, rfl, rfl, rfl, k + 1, by omega, by go_num, _, _, HE.out⟩
      case measure => simp [intOf]; omega
    · go_wp2_with fail
      refine (Calls.mono (HM.out _) ?_)
      rintro e z2 ⟨rfl, hf⟩
      have HFF : Hid (Fr [] w z2) := (HF1.out.trans HY.out.sg.fr (by simp)).trans hf (by simp)
      clear hf
      go_wp2_with fail
      go_ret
      exact ⟨rfl, HFF.out⟩
end Go.Proofs.YtdcppdgnekhcgaaGreatDoor
