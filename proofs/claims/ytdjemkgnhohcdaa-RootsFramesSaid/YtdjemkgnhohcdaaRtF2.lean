/-
  Roots: the statement RootsFrames.
-/
import Derived.Test.YtdjemkgnhohcdaaRtF1
namespace Go.Proofs.Ytdjemkgnhohcdaa
open Go.RowKit
set_option linter.unusedVariables false

theorem sumL_frames (fs : List (List Int)) : ∀ s : Int, (fs.map (fun l => (l.length : Int))).foldl (· + ·) s = s + (sumL fs : Nat) := by
  induction fs with
  | nil => intro s; simp [sumL]
  | cons x fs ih =>
    intro s
    rw [List.map_cons, List.foldl_cons, ih]
    simp only [sumL, List.map_cons, List.sum_cons]
    omega

theorem RS.room {b0 : Nat} {w : World} {g : Nat} {a : RA} {F : List Nat} (h : RS b0 w g a F) {i : Int} (hi : inT a i = true) : sumL (thA a i) ≤ a.S := by
  obtain ⟨R, hR, rfl, rfl⟩ := h
  obtain ⟨A, t, B, hth, he, _, _⟩ := inT_split hi
  rw [abs_at hth he]
  exact hR.room t (by rw [hth]; simp)
theorem RS.cnt {b0 : Nat} {w : World} {g : Nat} {a : RA} {F : List Nat} (h : RS b0 w g a F) {i : Int} (hi : inT a i = true) : (thA a i).length ≤ sumL (thA a i) := by
  obtain ⟨R, hR, rfl, rfl⟩ := h
  obtain ⟨A, t, B, hth, he, _, _⟩ := inT_split hi
  rw [abs_at hth he]
  have h1 := hR.one t (by rw [hth]; simp)
  unfold Thr.ls
  generalize t.fs = l at h1
  induction l with
  | nil => simp
  | cons f l ih =>
    have := ih (fun f hf => h1 f (by simp [hf]))
    have := h1 f (by simp)
    simp only [sumL, List.map_cons, List.sum_cons, List.length_cons] at *
    omega
/-- The last frame of a thread laid in its place. -/
def aT (a : RA) (t : Nat) (X : List Int) : RA := { a with ths := a.ths.set t (thA a (t : Int) ++ [X]) }
theorem aT_len (a : RA) (t : Nat) (X : List Int) : (aT a t X).ths.length = a.ths.length := by unfold aT; simp
theorem aT_th {a b : RA} {t : Nat} {X : List Int} (ht : t < a.ths.length) (h : b.ths = (aT a t X).ths) : thA b (t : Int) = thA a (t : Int) ++ [X] := by
  have := thA_set ht (thA a (t : Int) ++ [X])
  unfold thA at this ⊢
  rw [h]
  exact this
theorem aT_set {a : RA} {t k : Nat} {X : List Int} (ht : t < a.ths.length) (x : Int) (hk : k < X.length) : setA (aT a t X) (t : Int) (k : Int) x = (aT a t (X.set k (max x 0)), 0) := by
  rw [setA_last x (by rw [aT_len]; exact ht) (aT_th ht rfl) hk]
  unfold aT
  simp

set_option maxRecDepth 100000 in
set_option maxHeartbeats 12800000 in
theorem frames_st (T S H thr n0 : Int) (A B Cc : Option Addr) (n c n2 c2 n3 c3 : Nat) (l l3 : List Oq) (vals : List Int) (w : World) (hT : inI T) (hS : inI S) (hH : inI H) (hthr : inI thr) (hn0 : inI n0)
    (hn : n = l.length) (hr : RdO w A l) (hn2 : n2 = vals.length) (hr2 : RdI w B vals) (hn3 : n3 = l3.length) (hr3 : RdO w Cc l3) :
    Calls Try.prog 4 #[.int .i64 T, .int .i64 S, .int .i64 H, .slice A n c, .int .i64 thr, .int .i64 n0, .slice B n2 c2, .slice Cc n3 c3] w fun e w' => e = .returned (.bool true) ∧ Fr [] w w' := by
  obtain ⟨t0, t1⟩ := placeF_in T 8 (by omega)
  obtain ⟨s0, s1⟩ := placeF_in S 40 (by omega)
  obtain ⟨m0, m1⟩ := placeF_in n0 20 (by omega)
  obtain ⟨pT, hpT⟩ := Int.eq_ofNat_of_zero_le t0
  obtain ⟨pS, hpS⟩ := Int.eq_ofNat_of_zero_le s0
  obtain ⟨pN, hpN⟩ := Int.eq_ofNat_of_zero_le m0
  rw [hpT] at t1
  rw [hpS] at s1
  rw [hpN] at m1
  obtain ⟨r0, r1⟩ := placeF_in thr ((pT : Int) + 1) (by omega)
  obtain ⟨t, ht⟩ := Int.eq_ofNat_of_zero_le r0
  rw [ht] at r1
  have HP1 : Hid (∀ W : World, Calls Try.prog 18 #[.int .i64 T, .int .i64 8] W fun e w' => e = .returned (.int .i64 (pT : Int)) ∧ W = w') := fun W => by have := place_any T 8 W hT (by omega); rw [hpT] at this; exact this
  have HP2 : Hid (∀ W : World, Calls Try.prog 18 #[.int .i64 S, .int .i64 40] W fun e w' => e = .returned (.int .i64 (pS : Int)) ∧ W = w') := fun W => by have := place_any S 40 W hS (by omega); rw [hpS] at this; exact this
  have HP3 : Hid (∀ W : World, Calls Try.prog 18 #[.int .i64 n0, .int .i64 20] W fun e w' => e = .returned (.int .i64 (pN : Int)) ∧ W = w') := fun W => by have := place_any n0 20 W hn0 (by omega); rw [hpN] at this; exact this
  have HP4 : Hid (∀ W : World, Calls Try.prog 18 #[.int .i64 thr, .int .i64 ((pT : Int) + 1)] W fun e w' => e = .returned (.int .i64 (t : Int)) ∧ W = w') := fun W => by have := place_any thr ((pT : Int) + 1) W hthr (by omega); rw [ht] at this; exact this
  have w1' : IntKind.i64.wrap (1 + (pT : Int)) = (pT : Int) + 1 := by rw [show (1 : Int) + (pT : Int) = (pT : Int) + 1 by omega]; exact IntWalk.i64_in _ (by omega)
  have w2' : IntKind.i64.wrap (1 + (pS : Int)) = (pS : Int) + 1 := by rw [show (1 : Int) + (pS : Int) = (pS : Int) + 1 by omega]; exact IntWalk.i64_in _ (by omega)
  have w3' : IntKind.i64.wrap (1 + (pN : Int)) = (pN : Int) + 1 := by rw [show (1 : Int) + (pN : Int) = (pN : Int) + 1 by omega]; exact IntWalk.i64_in _ (by omega)
  have D1 := Lib.hid (show (1 : Int) + (pT : Int) = (pT : Int) + 1 by omega)
  have D2 := Lib.hid (show (1 : Int) + (pS : Int) = (pS : Int) + 1 by omega)
  have D3 := Lib.hid (show (1 : Int) + (pN : Int) = (pN : Int) + 1 by omega)
  have HG : Hid ((goalA T S H l).ths.length = pT + 1 ∧ (goalA T S H l).S = pS + 1 ∧ (goalA T S H l).q.length ≤ 2200000000000) := by
    have k := playL_keep l (newA (1 + placeF T 8).toNat (1 + placeF S 40).toNat (placeF H 12).toNat)
    have q := playL_q l (newA (1 + placeF T 8).toNat (1 + placeF S 40).toNat (placeF H 12).toNat)
    rw [hpT, hpS] at k q
    have e0 : (newA (1 + (pT : Int)).toNat (1 + (pS : Int)).toNat (placeF H 12).toNat).q = [] := rfl
    rw [e0] at q
    have := hr.1
    refine ⟨?_, ?_, ?_⟩
    · unfold goalA; rw [hpT, hpS, k.1]; simp [newA]; omega
    · unfold goalA; rw [hpT, hpS, k.2.1]; simp [newA]; omega
    · unfold goalA
      rw [hpT, hpS]
      simp only [List.length_nil] at q
      omega
  have HINI := Lib.hid (And.intro hT (And.intro hS hH))
  have HN := Lib.hid hn
  have HN2 := Lib.hid hn2
  have HN3 := Lib.hid hn3
  have HR := Lib.hid hr
  have HR2 := Lib.hid hr2
  have HR3 := Lib.hid hr3
  have hn2' := hr2.1
  rw [← hn2] at hn2'
  have hn3' := hr3.1
  rw [← hn3] at hn3'
  clear hT hS hH hthr hn0 hn hr hn2 hr2 hn3 hr3 hpT hpS hpN ht t0 s0 m0 r0
  go_enter Try.func4, Try.ntmps4
  go_wp2_with fail
  refine (known_any w).mono ?_
  rintro e w1 ⟨rfl, hf1⟩
  have HF1 := Lib.hid hf1
  clear hf1
  go_wp2_with fail
  refine (played_any T S H A n c l w1 w1 HINI.out.1 HINI.out.2.1 HINI.out.2.2 HN.out (HR.out.fr HF1.out) (Fr.refl _ _) (Nat.le_refl _)).mono ?_
  rintro e w2 ⟨g, F, rfl, hsn, _⟩
  obtain ⟨a, ha⟩ : ∃ a, goalA T S H l = a := ⟨_, rfl⟩
  rw [ha] at hsn HG
  have HSN := Lib.hid hsn
  clear hsn ha
  go_wp2_with fail
  refine (HP1.out w2).mono ?_
  rintro e w' ⟨rfl, rfl⟩
  go_wp2_with fail
  try rw [D1.out]
  refine (HP4.out w2).mono ?_
  rintro e w' ⟨rfl, rfl⟩
  go_wp2_with fail
  refine (HP3.out w2).mono ?_
  rintro e w' ⟨rfl, rfl⟩
  go_wp2_with fail
  refine (tops_any HSN.out.rs).mono ?_
  rintro e w3 ⟨vb, rfl, hll, hf3⟩
  have HLL := Lib.hid hll
  have HSN3 := Lib.hid (HSN.out.nil hf3)
  have HF3 := Lib.hid hf3
  clear hll hf3
  go_wp2_with fail
  refine (frames_any HSN3.out.rs (t : Int)).mono ?_
  intro e w4 hnl
  obtain ⟨vs, rfl, hnl, hf4⟩ := hnl.nl
  have HSC : Hid (Sc w1 g w2.heap.size w4.heap.size vb (topsA a) vs (framesA a (t : Int)) a w4) :=
    ⟨F, HSN3.out.nil hf4, fun x hx => .inl (HSN.out.rs.lt x hx), (HLL.out.fr hf4 (by simp)).widen (Nat.le_refl _) hf4.size, hnl.widen HF3.out.size (Nat.le_refl _), Nat.le_refl _⟩
  have HFW4 : Hid (Fr [] w w4) := ((HF1.out.trans HSN.out.fr (by simp)).trans HF3.out (by simp)).trans hf4 (by simp)
  clear hnl hf4
  have HTL : Hid (t < a.ths.length) := by show t < a.ths.length; rw [HG.out.1]; omega
  have HW1 : Hid (∀ W, Fr [] w1 W → Fr [] w W) := fun W hW => HF1.out.trans hW (by simp)
  try rw [D3.out]
  go_wp2_with fail
  refine (HSC.out.call (a' := (pushA a (t : Int) ((pN : Int) + 1)).1) (r := .int .i64 (pushA a (t : Int) ((pN : Int) + 1)).2) (fun F hF hb => push_any hF hb (t : Int) ((pN : Int) + 1))).mono ?_
  rintro e w5 ⟨rfl, h5⟩
  have hps : pushA a (t : Int) ((pN : Int) + 1) = if (a.S : Int) - (sumL (thA a (t : Int)) : Nat) < (pN : Int) + 1 then (a, 53) else ({ a with ths := a.ths.set t (thA a (t : Int) ++ [List.replicate (pN + 1) 0]) }, 0) := by
    unfold pushA
    rw [if_neg (by rw [inT_of HTL.out]; simp), if_neg (by omega), show ((pN : Int) + 1).toNat = pN + 1 by omega, Int.toNat_natCast]
  by_cases hov : (a.S : Int) - (sumL (thA a (t : Int)) : Nat) < (pN : Int) + 1
  · rw [if_pos hov] at hps
    rw [hps] at h5 ⊢
    have H5 := Lib.hid h5
    obtain ⟨hb5, hs5⟩ := h5.lists
    obtain ⟨As, cs, rfl, _, _⟩ := hs5.look
    obtain ⟨F5, hF5, _⟩ := h5
    have hroom := hF5.rs.room (inT_of HTL.out)
    have hcnt := hF5.rs.cnt (inT_of HTL.out)
    rw [HG.out.2.1] at hroom hov
    obtain ⟨Ls, hLs⟩ : ∃ Ls, thA a (t : Int) = Ls := ⟨_, rfl⟩
    have hfr : framesA a (t : Int) = Ls.map (fun l => (l.length : Int)) := by unfold framesA; rw [if_neg (by rw [inT_of HTL.out]; simp), hLs]
    rw [hLs] at hroom hov hcnt
    have HFRA := Lib.hid hfr
    have hlen : (framesA a (t : Int)).length = Ls.length := by rw [hfr, List.length_map]
    have HRD := Lib.hid (hs5.rd).2
    rw [hlen]
    obtain ⟨m, hm⟩ : ∃ m, Ls.length = m := ⟨_, rfl⟩
    rw [hm] at hcnt ⊢
    have HM := Lib.hid hm
    have HLS := Lib.hid hLs
    obtain ⟨sm, hsm⟩ : ∃ sm, sumL Ls = sm := ⟨_, rfl⟩
    rw [hsm] at hroom hov hcnt
    have HSM := Lib.hid hsm
    have H5' : Hid (Sc w1 g w2.heap.size w4.heap.size vb (topsA a) (.slice As m cs) (framesA a (t : Int)) a w5) := by
      have := H5.out
      rw [hlen, hm] at this
      exact this
    clear hps hb5 hs5 hF5 hLs hfr hlen hm hsm H5
    go_upto_region 13 with fail
    go_loop [23, 24] (fun q i => ∃ k : Nat, k ≤ m ∧ i = .int .i64 k ∧ q = .int .i64 ((sumL (Ls.take k) : Nat) : Int)) (fun _ i => m - (intOf i).toNat)
    case atStart => exact ⟨0, by omega, rfl, by simp [sumL]⟩
    case round =>
      obtain ⟨k, hk, rfl, rfl⟩ := hrel
      by_cases hlt : k < m
      · obtain ⟨x, hx⟩ : ∃ x, Ls[k]? = some x := ⟨_, List.getElem?_eq_getElem (by have := HM.out; omega)⟩
        have hsucc := sumL_take_succ hx
        have hle := sumL_take_le Ls (k + 1)
        have hsm := HSM.out
        obtain ⟨b, o, rfl, _, hcell⟩ := HRD.out.2 (by rw [HFRA.out, List.length_map, HM.out]; omega)
        have cx := hcell k (x.length : Int) (by rw [HFRA.out, List.getElem?_map, hx]; rfl)
        obtain ⟨xl, hxl⟩ : ∃ xl, x.length = xl := ⟨_, rfl⟩
        obtain ⟨s1', hs1⟩ : ∃ s1', sumL (Ls.take k) = s1' := ⟨_, rfl⟩
        obtain ⟨s2', hs2⟩ : ∃ s2', sumL (Ls.take (k + 1)) = s2' := ⟨_, rfl⟩
        rw [hxl] at cx hsucc
        rw [hs1, hs2] at hsucc
        rw [hs2] at hle
        rw [hs1]
        have HS2 := Lib.hid hs2
        have i0 : (0 : Int) ≤ (k : Int) := by omega
        have i1 : (k : Int) < (m : Int) := by omega
        have hw : IntKind.i64.wrap ((s1' : Int) + (xl : Int)) = (s2' : Int) := by rw [show (s1' : Int) + (xl : Int) = (s2' : Int) by omega]; exact IntWalk.i64_in _ (by omega)
        have hw2 : Hid ((s1' : Int) + (xl : Int) = (s2' : Int)) := by show (s1' : Int) + (xl : Int) = (s2' : Int); omega
        clear hx hsucc hle hsm hcell hxl hs1 hs2
        go_wp2_with fail
        go_round
        case rel => exact ⟨k + 1, by omega, by go_num, by rw [HS2.out]⟩
        case measure => simp [intOf]; omega
      · obtain rfl : m = k := by omega
        have hall : Ls.take m = Ls := List.take_of_length_le (by rw [HM.out]; exact Nat.le_refl _)
        rw [hall, HSM.out]
        have g1 : decide ((pS : Int) + 1 < (sm : Int) + ((pN : Int) + 1)) = true := decide_eq_true (by omega)
        have g2 : IntKind.i64.wrap ((sm : Int) + ((pN : Int) + 1)) = (sm : Int) + ((pN : Int) + 1) := IntWalk.i64_in _ (by omega)
        have g3 : IntKind.i64.wrap ((pS : Int) + 1) = (pS : Int) + 1 := IntWalk.i64_in _ (by omega)
        clear hall hlt hk hcnt hroom
        go_wp2_with fail
        refine (HP2.out w5).mono ?_
        rintro e w' ⟨rfl, rfl⟩
        go_wp2_with fail
        refine (H5'.out.ask (fun F hF => tops_any hF)).mono ?_
        rintro e w6 ⟨v6, rfl, hll, hf6⟩
        have H6 := Lib.hid (H5'.out.nil hf6)
        have HLL6 := Lib.hid hll
        clear hll hf6
        go_wp2_with fail
        refine (sameAll_yes w6 H6.out.lists.1 HLL6.out).mono ?_
        rintro e w7 ⟨rfl, hf7⟩
        have HF7 : Hid (Fr [] w w7) := HW1.out w7 (H6.out.frm.trans hf7 (by simp))
        clear hf7
        go_wp2_with fail
        go_ret
        exact ⟨rfl, HF7.out⟩
  · rw [if_neg hov] at hps
    rw [hps] at h5 ⊢
    obtain ⟨N, hN⟩ : ∃ N, pN + 1 = N := ⟨_, rfl⟩
    have hN20 : N ≤ 20 := by omega
    have hN1 : ((pN : Int) + 1) = (N : Int) := by omega
    have h5 : Sc w1 g w2.heap.size w4.heap.size vb (topsA a) vs (framesA a (t : Int)) (aT a t (mixL vals N 0)) w5 := by rw [mixL_zero, ← hN]; exact h5
    have H5 := Lib.hid h5
    rw [hN1]
    clear h5 hps hov HSC HSN HSN3 HLL hN1 hN m1 w3' D3 HP3
    go_upto_region 18 with fail
    go_loopw [25] (fun i wr => ∃ k : Nat, k ≤ N ∧ i = .int .i64 k ∧ Hid (Sc w1 g w2.heap.size w4.heap.size vb (topsA a) vs (framesA a (t : Int)) (aT a t (mixL vals N 0)) wr)) (fun i _ => N - (intOf i).toNat)
    case atStart => exact ⟨0, by omega, rfl, H5.out⟩
    case round =>
      clear H5
      obtain ⟨k, hk, rfl, H5⟩ := hrel
      by_cases hlt : k < N
      · have HGET : Hid (Calls Try.prog 22 #[.pointer (some ⟨g, 0, none⟩), .int .i64 (t : Int), .int .i64 (k : Int)] wr fun e w' => e = .returned (.tuple #[.int .i64 0, .int .i64 0]) ∧ wr = w') := by
          have := H5.out.ask (fun F hF => get_any hF (t : Int) (k : Int))
          rw [getA_last (x := 0) (by rw [aT_len]; exact HTL.out) (aT_th HTL.out rfl) (by rw [mixL_zero, List.getElem?_replicate, if_pos hlt])] at this
          exact this
        have d1 : decide ((k : Int) < (N : Int)) = true := decide_eq_true (by omega)
        go_wp2_with fail
        refine (Calls.mono HGET.out ?_)
        rintro e w' ⟨rfl, rfl⟩
        go_wp2_with fail
        go_roundw
        case rel => exact ⟨k + 1, by omega, by go_num, H5.out⟩
        case measure => simp [intOf]; omega
      · obtain rfl : N = k := by omega
        clear hlt hk
        have hcase : ∃ K, K ≤ N ∧ K ≤ n2 ∧ ((K = N ∧ N ≤ n2) ∨ (K = n2 ∧ n2 < N)) := by
          by_cases h : N ≤ n2
          · exact ⟨N, Nat.le_refl _, h, .inl ⟨rfl, h⟩⟩
          · exact ⟨n2, by omega, Nat.le_refl _, .inr ⟨rfl, by omega⟩⟩
        obtain ⟨K, hKN, hK2, hKc⟩ := hcase
        have d0 : decide ((N : Int) < (N : Int)) = false := decide_eq_false (by omega)
        have d0' : decide (N < N) = false := decide_eq_false (by omega)
        go_upto_region 24 with fail
        go_loopw [28] (fun i wr => ∃ k : Nat, k ≤ K ∧ i = .int .i64 k ∧ Hid (Sc w1 g w2.heap.size w4.heap.size vb (topsA a) vs (framesA a (t : Int)) (aT a t (mixL vals N k)) wr)) (fun i _ => K - (intOf i).toNat)
        case atStart => exact ⟨0, by omega, rfl, H5.out⟩
        case round =>
          clear H5
          obtain ⟨k, hk, rfl, H5⟩ := hrel
          by_cases hlt : k < K
          · obtain ⟨b, o, rfl, hbl, hcell⟩ := HR2.out.2 (by have := HN2.out; omega)
            obtain ⟨x, hx⟩ : ∃ x, vals[k]? = some x := ⟨_, List.getElem?_eq_getElem (by have := HN2.out; omega)⟩
            have cx : wr.cell? ⟨b, o + k, none⟩ = some (.int .i64 x) := (World.cell?_of_block ((HW1.out wr H5.out.frm).block b hbl (by simp))).trans (hcell k x hx)
            have HSET : Hid (Calls Try.prog 23 #[.pointer (some ⟨g, 0, none⟩), .int .i64 (t : Int), .int .i64 (k : Int), .int .i64 x] wr fun e w' => e = .returned (.int .i64 0) ∧ Sc w1 g w2.heap.size w4.heap.size vb (topsA a) vs (framesA a (t : Int)) (aT a t (mixL vals N (k + 1))) w') := by
              have hset := aT_set (a := a) (t := t) (k := k) (X := mixL vals N k) HTL.out x (by rw [mixL_len (by omega) (by have := HN2.out; omega)]; omega)
              rw [mixL_set (by omega) hx] at hset
              have := H5.out.call (a' := (setA (aT a t (mixL vals N k)) (t : Int) (k : Int) x).1) (r := .int .i64 (setA (aT a t (mixL vals N k)) (t : Int) (k : Int) x).2) (fun F hF hb => set_any hF hb (t : Int) (k : Int) x)
              rw [hset] at this
              exact this
            have i0 : (0 : Int) ≤ (k : Int) := by omega
            have i1 : (k : Int) < (n2 : Int) := by omega
            have d1 : decide ((k : Int) < (N : Int)) = true := decide_eq_true (by omega)
            have d2 : decide (k < N) = true := decide_eq_true (by omega)
            have d3 : decide ((k : Int) < (n2 : Int)) = true := decide_eq_true (by omega)
            have d4 : decide (k < n2) = true := decide_eq_true (by omega)
            clear hx hcell
            go_wp2_with fail
            refine (Calls.mono HSET.out ?_)
            rintro e w6 ⟨rfl, h6⟩
            have H6 := Lib.hid h6
            clear h6 cx
            go_wp2_with fail
            go_roundw
            case rel => exact ⟨k + 1, by omega, by go_num, H6.out⟩
            case measure => simp [intOf]; omega
          · obtain rfl : K = k := by omega
            have HKN := Lib.hid hKN
            have HK2 := Lib.hid hK2
            have HKC := Lib.hid hKc
            have HHT : Hid (∀ a' : RA, a'.ths = (aT a t (mixL vals N K)).ths → thA a' (t : Int) = thA a (t : Int) ++ [mixL vals N K] ∧ t < a'.ths.length) := fun a' h => ⟨aT_th HTL.out h, by rw [h, aT_len]; exact HTL.out⟩
            have HMAT : Hid (∀ (i : Nat) (x : Int), i < K → vals[i]? = some x → (mixL vals N K)[i]? = some (max x 0)) := fun i x hi hx => mixL_at HKN.out hi hx
            have HQ : Hid ((aT a t (mixL vals N K)).q.length ≤ 2200000000000) := HG.out.2.2
            clear hlt hk hKN hK2
            rcases hKc with ⟨hKN, hKn⟩ | ⟨hKN, hKn⟩
            · have d1 : decide ((K : Int) < (N : Int)) = false := decide_eq_false (by omega)
              have d2 : decide (K < N) = false := decide_eq_false (by omega)
              clear hKN hKn
              go_upto_region 28 with fail
              go_loopw [29] (fun i wr => ∃ k : Nat, k ≤ n3 ∧ i = .int .i64 k ∧ Hid (∃ a', Sc w1 g w2.heap.size w4.heap.size vb (topsA a) vs (framesA a (t : Int)) a' wr ∧ a'.ths = (aT a t (mixL vals N K)).ths ∧ a'.q.length ≤ 2200000000000 + k)) (fun i _ => n3 - (intOf i).toNat)
              case atStart => exact ⟨0, by omega, rfl, _, H5.out, rfl, HQ.out⟩
              case round =>
                clear H5
                obtain ⟨k, hk, rfl, hx⟩ := hrel
                obtain ⟨a', hsc, hth, hql⟩ := hx.out
                have H5 := Lib.hid hsc
                have HTH := Lib.hid hth
                have HQL := Lib.hid hql
                clear hx hsc hth hql
                by_cases hlt : k < n3
                · obtain ⟨b, o, rfl, hbl, hcell⟩ := HR3.out.2 (by have := HN3.out; omega)
                  obtain ⟨q, hq⟩ : ∃ q, l3[k]? = some q := ⟨_, List.getElem?_eq_getElem (by have := HN3.out; omega)⟩
                  obtain ⟨c0, c1, c2', c3', c4, c5⟩ := hcell k q hq
                  have hbk := (HW1.out wr H5.out.frm).block b hbl (by simp)
                  have c0 := (World.cell?_of_block hbk).trans c0
                  have c2' := (World.cell?_of_block hbk).trans c2'
                  have c3' := (World.cell?_of_block hbk).trans c3'
                  obtain ⟨qk, qt, qn, qa, qs, la, ln, lc⟩ := q
                  simp only at c0 c2' c3'
                  have i0 : (0 : Int) ≤ (k : Int) := by omega
                  have i1 : (k : Int) < (n3 : Int) := by omega
                  clear hq hcell hbk c1 c4 c5
                  by_cases hk6 : qk = 6
                  · subst hk6
                    go_wp2_with fail
                    refine (H5.out.call (a' := (openA a' qa).1) (r := .tuple #[.int .i64 (openA a' qa).2.1, .int .i64 (openA a' qa).2.2]) (fun F hF hb => open_any hF qa)).mono ?_
                    rintro e w6 ⟨rfl, h6⟩
                    have H6 := Lib.hid h6
                    clear h6 c0 c2' c3'
                    go_wp2_with fail
                    go_roundw
                    case rel => exact ⟨k + 1, by omega, by go_num, _, H6.out, (open_keep a' qa).1.trans HTH.out, by rw [open_q]; have := HQL.out; omega⟩
                    case measure => simp [intOf]; omega
                  by_cases hk8 : qk = 8
                  · subst hk8
                    go_wp2_with fail
                    refine (H5.out.call (a' := (closeA a' qn).1) (r := .int .i64 (closeA a' qn).2) (fun F hF hb => close_any hF qn)).mono ?_
                    rintro e w6 ⟨rfl, h6⟩
                    have H6 := Lib.hid h6
                    clear h6 c0 c2' c3'
                    go_wp2_with fail
                    go_roundw
                    case rel => exact ⟨k + 1, by omega, by go_num, _, H6.out, (close_keep a' qn).1.trans HTH.out, by rw [close_q]; have := HQL.out; omega⟩
                    case measure => simp [intOf]; omega
                  by_cases hk10 : qk = 10
                  · subst hk10
                    go_wp2_with fail
                    refine (H5.out.call (a' := enqA a' qa) (r := .tuple #[]) (fun F hF hb => enq_any hF hb (by have := HQL.out; omega) qa)).mono ?_
                    rintro e w6 ⟨rfl, h6⟩
                    have H6 := Lib.hid h6
                    clear h6 c0 c2' c3'
                    go_wp2_with fail
                    go_roundw
                    case rel => exact ⟨k + 1, by omega, by go_num, _, H6.out, HTH.out, by have := HQL.out; simp only [enqA, List.length_append, List.length_cons, List.length_nil]; omega⟩
                    case measure => simp [intOf]; omega
                  by_cases hk11 : qk = 11
                  · subst hk11
                    go_wp2_with fail
                    refine (H5.out.call (a' := (deqA a').1) (r := .tuple #[.int .i64 (deqA a').2.1, .bool (deqA a').2.2]) (fun F hF hb => deq_any hF hb)).mono ?_
                    rintro e w6 ⟨rfl, h6⟩
                    have H6 := Lib.hid h6
                    clear h6 c0 c2' c3'
                    go_wp2_with fail
                    go_roundw
                    case rel => exact ⟨k + 1, by omega, by go_num, _, H6.out, (deq_keep a').1.trans HTH.out, by have := deq_q a'; have := HQL.out; omega⟩
                    case measure => simp [intOf]; omega
                  have e4 : ∀ c : Int, qk ≠ c → (qk == c) = false := fun c hc => by simpa using hc
                  have f6 := e4 6 hk6
                  have f8 := e4 8 hk8
                  have f10 := e4 10 hk10
                  have f11 := e4 11 hk11
                  clear e4 hk6 hk8 hk10 hk11
                  go_wp2_with fail
                  go_roundw
                  case rel => exact ⟨k + 1, by omega, by go_num, a', H5.out, HTH.out, by have := HQL.out; omega⟩
                  case measure => simp [intOf]; omega
                · obtain rfl : n3 = k := by omega
                  clear hlt hk HQL
                  go_upto_region 40 with fail
                  go_loopw [30] (fun i wr => ∃ k : Nat, k ≤ K ∧ i = .int .i64 k ∧ Hid (Sc w1 g w2.heap.size w4.heap.size vb (topsA a) vs (framesA a (t : Int)) a' wr)) (fun i _ => K - (intOf i).toNat)
                  case atStart => exact ⟨0, by omega, rfl, H5.out⟩
                  case round =>
                    clear H5
                    obtain ⟨k, hk, rfl, H5⟩ := hrel
                    by_cases hlt : k < K
                    · obtain ⟨b, o, rfl, hbl, hcell⟩ := HR2.out.2 (by have := HN2.out; have := HK2.out; omega)
                      obtain ⟨x, hx⟩ : ∃ x, vals[k]? = some x := ⟨_, List.getElem?_eq_getElem (by have := HN2.out; have := HK2.out; omega)⟩
                      have cx : wr.cell? ⟨b, o + k, none⟩ = some (.int .i64 x) := (World.cell?_of_block ((HW1.out wr H5.out.frm).block b hbl (by simp))).trans (hcell k x hx)
                      have HGET : Hid (Calls Try.prog 22 #[.pointer (some ⟨g, 0, none⟩), .int .i64 (t : Int), .int .i64 (k : Int)] wr fun e w' => e = .returned (.tuple #[.int .i64 (max x 0), .int .i64 0]) ∧ wr = w') := by
                        have := H5.out.ask (fun F hF => get_any hF (t : Int) (k : Int))
                        rw [getA_last (x := max x 0) (HHT.out a' HTH.out).2 (HHT.out a' HTH.out).1 (HMAT.out k x hlt hx)] at this
                        exact this
                      have i0 : (0 : Int) ≤ (k : Int) := by omega
                      have i1 : (k : Int) < (n2 : Int) := by have := HK2.out; omega
                      have g1 : decide ((k : Int) < (N : Int)) = true := decide_eq_true (by have := HKN.out; omega)
                      have g2 : decide (k < N) = true := decide_eq_true (by have := HKN.out; omega)
                      have g3 : decide ((k : Int) < (n2 : Int)) = true := decide_eq_true (by have := HK2.out; omega)
                      have g4 : decide (k < n2) = true := decide_eq_true (by have := HK2.out; omega)
                      clear hx hcell
                      rcases (show 0 ≤ x ∨ x < 0 by omega) with hx0 | hx0
                      · have hm : max x 0 = x := by omega
                        rw [hm] at HGET
                        have hxx : (x != x) = false := by simp
                        clear hm
                        go_wp2_with fail
                        refine (Calls.mono HGET.out ?_)
                        rintro e w' ⟨rfl, rfl⟩
                        go_wp2_with fail
                        go_roundw
                        case rel => exact ⟨k + 1, by omega, by go_num, H5.out⟩
                        case measure => simp [intOf]; omega
                      · have hm : max x 0 = 0 := by omega
                        rw [hm] at HGET
                        clear hm
                        go_wp2_with fail
                        refine (Calls.mono HGET.out ?_)
                        rintro e w' ⟨rfl, rfl⟩
                        go_wp2_with fail
                        go_roundw
                        case rel => exact ⟨k + 1, by omega, by go_num, H5.out⟩
                        case measure => simp [intOf]; omega
                    · obtain rfl : K = k := by omega
                      clear hlt hk
                      have hpop := popA_last (HHT.out a' HTH.out).2 (HHT.out a' HTH.out).1
                      obtain ⟨a2, ha2⟩ : ∃ a2, ({ a' with ths := a'.ths.set t (thA a (t : Int)) } : RA) = a2 := ⟨_, rfl⟩
                      have hths : a2.ths = a.ths := by
                        rw [← ha2]
                        show a'.ths.set t (thA a (t : Int)) = a.ths
                        rw [HTH.out]
                        exact set_back HTL.out _
                      rw [ha2] at hpop
                      have HPOP : Hid (Calls Try.prog 14 #[.pointer (some ⟨g, 0, none⟩), .int .i64 (t : Int)] wr fun e w' => e = .returned (.int .i64 0) ∧ Sc w1 g w2.heap.size w4.heap.size vb (topsA a) vs (framesA a (t : Int)) a2 w') := by
                        have := H5.out.call (a' := (popA a' (t : Int)).1) (r := .int .i64 (popA a' (t : Int)).2) (fun F hF hb => pop_any hF hb (t : Int))
                        rw [hpop] at this
                        exact this
                      have HA2 := Lib.hid hths
                      clear hpop ha2 hths
                      go_wp2_with fail
                      refine (Calls.mono HPOP.out ?_)
                      rintro e w6 ⟨rfl, h6⟩
                      have H6 := Lib.hid h6
                      clear h6
                      go_wp2_with fail
                      refine (H6.out.ask (fun F hF => frames_any hF (t : Int))).mono ?_
                      intro e w7 hnl
                      obtain ⟨v7, rfl, hn7, hf7⟩ := NewL.nl hnl
                      rw [framesA_ths HA2.out] at hn7
                      obtain ⟨A7, c7, rfl, _, _⟩ := hn7.look
                      have H7 := Lib.hid (H6.out.nil hf7)
                      obtain ⟨A8, c8, rfl, _, _⟩ := H7.out.lists.2.look
                      have HN7 := Lib.hid hn7.rd.2
                      have HN8 := Lib.hid H7.out.lists.2.rd.2
                      clear hnl hn7 hf7
                      go_wp2_with fail
                      refine (same_yes A7 A8 (framesA a (t : Int)) _ c7 c8 w7 rfl HN7.out HN8.out).mono ?_
                      rintro e w8 ⟨rfl, hf8⟩
                      have H8 := Lib.hid (H7.out.nil hf8)
                      clear hf8
                      go_wp2_with fail
                      refine (H8.out.ask (fun F hF => tops_any hF)).mono ?_
                      rintro e w9 ⟨v9, rfl, hll, hf9⟩
                      rw [topsA_ths HA2.out] at hll
                      have H9 := Lib.hid (H8.out.nil hf9)
                      have HLL9 := Lib.hid hll
                      clear hll hf9
                      go_wp2_with fail
                      refine (sameAll_yes w9 H9.out.lists.1 HLL9.out).mono ?_
                      rintro e w10 ⟨rfl, hf10⟩
                      have HF10 : Hid (Fr [] w w10) := HW1.out w10 (H9.out.frm.trans hf10 (by simp))
                      clear hf10
                      go_wp2_with fail
                      go_ret
                      exact ⟨rfl, HF10.out⟩
            · have d1 : decide ((K : Int) < (N : Int)) = true := decide_eq_true (by omega)
              have d2 : decide (K < N) = true := decide_eq_true (by omega)
              have d3 : decide ((K : Int) < (n2 : Int)) = false := decide_eq_false (by omega)
              have d4 : decide (K < n2) = false := decide_eq_false (by omega)
              clear hKN hKn
              go_upto_region 28 with fail
              go_loopw [29] (fun i wr => ∃ k : Nat, k ≤ n3 ∧ i = .int .i64 k ∧ Hid (∃ a', Sc w1 g w2.heap.size w4.heap.size vb (topsA a) vs (framesA a (t : Int)) a' wr ∧ a'.ths = (aT a t (mixL vals N K)).ths ∧ a'.q.length ≤ 2200000000000 + k)) (fun i _ => n3 - (intOf i).toNat)
              case atStart => exact ⟨0, by omega, rfl, _, H5.out, rfl, HQ.out⟩
              case round =>
                clear H5
                obtain ⟨k, hk, rfl, hx⟩ := hrel
                obtain ⟨a', hsc, hth, hql⟩ := hx.out
                have H5 := Lib.hid hsc
                have HTH := Lib.hid hth
                have HQL := Lib.hid hql
                clear hx hsc hth hql
                by_cases hlt : k < n3
                · obtain ⟨b, o, rfl, hbl, hcell⟩ := HR3.out.2 (by have := HN3.out; omega)
                  obtain ⟨q, hq⟩ : ∃ q, l3[k]? = some q := ⟨_, List.getElem?_eq_getElem (by have := HN3.out; omega)⟩
                  obtain ⟨c0, c1, c2', c3', c4, c5⟩ := hcell k q hq
                  have hbk := (HW1.out wr H5.out.frm).block b hbl (by simp)
                  have c0 := (World.cell?_of_block hbk).trans c0
                  have c2' := (World.cell?_of_block hbk).trans c2'
                  have c3' := (World.cell?_of_block hbk).trans c3'
                  obtain ⟨qk, qt, qn, qa, qs, la, ln, lc⟩ := q
                  simp only at c0 c2' c3'
                  have i0 : (0 : Int) ≤ (k : Int) := by omega
                  have i1 : (k : Int) < (n3 : Int) := by omega
                  clear hq hcell hbk c1 c4 c5
                  by_cases hk6 : qk = 6
                  · subst hk6
                    go_wp2_with fail
                    refine (H5.out.call (a' := (openA a' qa).1) (r := .tuple #[.int .i64 (openA a' qa).2.1, .int .i64 (openA a' qa).2.2]) (fun F hF hb => open_any hF qa)).mono ?_
                    rintro e w6 ⟨rfl, h6⟩
                    have H6 := Lib.hid h6
                    clear h6 c0 c2' c3'
                    go_wp2_with fail
                    go_roundw
                    case rel => exact ⟨k + 1, by omega, by go_num, _, H6.out, (open_keep a' qa).1.trans HTH.out, by rw [open_q]; have := HQL.out; omega⟩
                    case measure => simp [intOf]; omega
                  by_cases hk8 : qk = 8
                  · subst hk8
                    go_wp2_with fail
                    refine (H5.out.call (a' := (closeA a' qn).1) (r := .int .i64 (closeA a' qn).2) (fun F hF hb => close_any hF qn)).mono ?_
                    rintro e w6 ⟨rfl, h6⟩
                    have H6 := Lib.hid h6
                    clear h6 c0 c2' c3'
                    go_wp2_with fail
                    go_roundw
                    case rel => exact ⟨k + 1, by omega, by go_num, _, H6.out, (close_keep a' qn).1.trans HTH.out, by rw [close_q]; have := HQL.out; omega⟩
                    case measure => simp [intOf]; omega
                  by_cases hk10 : qk = 10
                  · subst hk10
                    go_wp2_with fail
                    refine (H5.out.call (a' := enqA a' qa) (r := .tuple #[]) (fun F hF hb => enq_any hF hb (by have := HQL.out; omega) qa)).mono ?_
                    rintro e w6 ⟨rfl, h6⟩
                    have H6 := Lib.hid h6
                    clear h6 c0 c2' c3'
                    go_wp2_with fail
                    go_roundw
                    case rel => exact ⟨k + 1, by omega, by go_num, _, H6.out, HTH.out, by have := HQL.out; simp only [enqA, List.length_append, List.length_cons, List.length_nil]; omega⟩
                    case measure => simp [intOf]; omega
                  by_cases hk11 : qk = 11
                  · subst hk11
                    go_wp2_with fail
                    refine (H5.out.call (a' := (deqA a').1) (r := .tuple #[.int .i64 (deqA a').2.1, .bool (deqA a').2.2]) (fun F hF hb => deq_any hF hb)).mono ?_
                    rintro e w6 ⟨rfl, h6⟩
                    have H6 := Lib.hid h6
                    clear h6 c0 c2' c3'
                    go_wp2_with fail
                    go_roundw
                    case rel => exact ⟨k + 1, by omega, by go_num, _, H6.out, (deq_keep a').1.trans HTH.out, by have := deq_q a'; have := HQL.out; omega⟩
                    case measure => simp [intOf]; omega
                  have e4 : ∀ c : Int, qk ≠ c → (qk == c) = false := fun c hc => by simpa using hc
                  have f6 := e4 6 hk6
                  have f8 := e4 8 hk8
                  have f10 := e4 10 hk10
                  have f11 := e4 11 hk11
                  clear e4 hk6 hk8 hk10 hk11
                  go_wp2_with fail
                  go_roundw
                  case rel => exact ⟨k + 1, by omega, by go_num, a', H5.out, HTH.out, by have := HQL.out; omega⟩
                  case measure => simp [intOf]; omega
                · obtain rfl : n3 = k := by omega
                  clear hlt hk HQL
                  go_upto_region 40 with fail
                  go_loopw [30] (fun i wr => ∃ k : Nat, k ≤ K ∧ i = .int .i64 k ∧ Hid (Sc w1 g w2.heap.size w4.heap.size vb (topsA a) vs (framesA a (t : Int)) a' wr)) (fun i _ => K - (intOf i).toNat)
                  case atStart => exact ⟨0, by omega, rfl, H5.out⟩
                  case round =>
                    clear H5
                    obtain ⟨k, hk, rfl, H5⟩ := hrel
                    by_cases hlt : k < K
                    · obtain ⟨b, o, rfl, hbl, hcell⟩ := HR2.out.2 (by have := HN2.out; have := HK2.out; omega)
                      obtain ⟨x, hx⟩ : ∃ x, vals[k]? = some x := ⟨_, List.getElem?_eq_getElem (by have := HN2.out; have := HK2.out; omega)⟩
                      have cx : wr.cell? ⟨b, o + k, none⟩ = some (.int .i64 x) := (World.cell?_of_block ((HW1.out wr H5.out.frm).block b hbl (by simp))).trans (hcell k x hx)
                      have HGET : Hid (Calls Try.prog 22 #[.pointer (some ⟨g, 0, none⟩), .int .i64 (t : Int), .int .i64 (k : Int)] wr fun e w' => e = .returned (.tuple #[.int .i64 (max x 0), .int .i64 0]) ∧ wr = w') := by
                        have := H5.out.ask (fun F hF => get_any hF (t : Int) (k : Int))
                        rw [getA_last (x := max x 0) (HHT.out a' HTH.out).2 (HHT.out a' HTH.out).1 (HMAT.out k x hlt hx)] at this
                        exact this
                      have i0 : (0 : Int) ≤ (k : Int) := by omega
                      have i1 : (k : Int) < (n2 : Int) := by have := HK2.out; omega
                      have g1 : decide ((k : Int) < (N : Int)) = true := decide_eq_true (by have := HKN.out; omega)
                      have g2 : decide (k < N) = true := decide_eq_true (by have := HKN.out; omega)
                      have g3 : decide ((k : Int) < (n2 : Int)) = true := decide_eq_true (by have := HK2.out; omega)
                      have g4 : decide (k < n2) = true := decide_eq_true (by have := HK2.out; omega)
                      clear hx hcell
                      rcases (show 0 ≤ x ∨ x < 0 by omega) with hx0 | hx0
                      · have hm : max x 0 = x := by omega
                        rw [hm] at HGET
                        have hxx : (x != x) = false := by simp
                        clear hm
                        go_wp2_with fail
                        refine (Calls.mono HGET.out ?_)
                        rintro e w' ⟨rfl, rfl⟩
                        go_wp2_with fail
                        go_roundw
                        case rel => exact ⟨k + 1, by omega, by go_num, H5.out⟩
                        case measure => simp [intOf]; omega
                      · have hm : max x 0 = 0 := by omega
                        rw [hm] at HGET
                        clear hm
                        go_wp2_with fail
                        refine (Calls.mono HGET.out ?_)
                        rintro e w' ⟨rfl, rfl⟩
                        go_wp2_with fail
                        go_roundw
                        case rel => exact ⟨k + 1, by omega, by go_num, H5.out⟩
                        case measure => simp [intOf]; omega
                    · obtain rfl : K = k := by omega
                      clear hlt hk
                      have hpop := popA_last (HHT.out a' HTH.out).2 (HHT.out a' HTH.out).1
                      obtain ⟨a2, ha2⟩ : ∃ a2, ({ a' with ths := a'.ths.set t (thA a (t : Int)) } : RA) = a2 := ⟨_, rfl⟩
                      have hths : a2.ths = a.ths := by
                        rw [← ha2]
                        show a'.ths.set t (thA a (t : Int)) = a.ths
                        rw [HTH.out]
                        exact set_back HTL.out _
                      rw [ha2] at hpop
                      have HPOP : Hid (Calls Try.prog 14 #[.pointer (some ⟨g, 0, none⟩), .int .i64 (t : Int)] wr fun e w' => e = .returned (.int .i64 0) ∧ Sc w1 g w2.heap.size w4.heap.size vb (topsA a) vs (framesA a (t : Int)) a2 w') := by
                        have := H5.out.call (a' := (popA a' (t : Int)).1) (r := .int .i64 (popA a' (t : Int)).2) (fun F hF hb => pop_any hF hb (t : Int))
                        rw [hpop] at this
                        exact this
                      have HA2 := Lib.hid hths
                      clear hpop ha2 hths
                      go_wp2_with fail
                      refine (Calls.mono HPOP.out ?_)
                      rintro e w6 ⟨rfl, h6⟩
                      have H6 := Lib.hid h6
                      clear h6
                      go_wp2_with fail
                      refine (H6.out.ask (fun F hF => frames_any hF (t : Int))).mono ?_
                      intro e w7 hnl
                      obtain ⟨v7, rfl, hn7, hf7⟩ := NewL.nl hnl
                      rw [framesA_ths HA2.out] at hn7
                      obtain ⟨A7, c7, rfl, _, _⟩ := hn7.look
                      have H7 := Lib.hid (H6.out.nil hf7)
                      obtain ⟨A8, c8, rfl, _, _⟩ := H7.out.lists.2.look
                      have HN7 := Lib.hid hn7.rd.2
                      have HN8 := Lib.hid H7.out.lists.2.rd.2
                      clear hnl hn7 hf7
                      go_wp2_with fail
                      refine (same_yes A7 A8 (framesA a (t : Int)) _ c7 c8 w7 rfl HN7.out HN8.out).mono ?_
                      rintro e w8 ⟨rfl, hf8⟩
                      have H8 := Lib.hid (H7.out.nil hf8)
                      clear hf8
                      go_wp2_with fail
                      refine (H8.out.ask (fun F hF => tops_any hF)).mono ?_
                      rintro e w9 ⟨v9, rfl, hll, hf9⟩
                      rw [topsA_ths HA2.out] at hll
                      have H9 := Lib.hid (H8.out.nil hf9)
                      have HLL9 := Lib.hid hll
                      clear hll hf9
                      go_wp2_with fail
                      refine (sameAll_yes w9 H9.out.lists.1 HLL9.out).mono ?_
                      rintro e w10 ⟨rfl, hf10⟩
                      have HF10 : Hid (Fr [] w w10) := HW1.out w10 (H9.out.frm.trans hf10 (by simp))
                      clear hf10
                      go_wp2_with fail
                      go_ret
                      exact ⟨rfl, HF10.out⟩
end Go.Proofs.Ytdjemkgnhohcdaa
