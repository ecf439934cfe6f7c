/-
  Marks: the desk's slides: what is asked of them.
-/
import Derived.Test.YtheiacfdbhjbmaaDoorMkDk5
namespace Go.Proofs.YtheiacfdbhjbmaaDoor
open Go.RowKit Go.Shelf Mk
set_option linter.unusedVariables false

theorem sback_any (s : Sl) (w : World) (size : Nat) (h : s.ok w size) (t : Int) (hl : -9223372036854775808 ≤ t ∧ t ≤ 9223372036854775807) :
    Calls Tryd.prog 29 #[.pointer (some ⟨s.gs, 0, none⟩), .int .i64 t] w fun e w' => e = .returned (.tuple #[.int .i64 (backI s.f s.c s.b t), .bool (backB s.f s.c s.b t)]) ∧ w = w' := by
  by_cases hin : (s.c : Int) ≤ t ∧ t - s.c < (cnt s.f 0 s.b : Nat)
  · obtain ⟨h1, h2⟩ := hin
    obtain ⟨q, hq⟩ := Int.eq_ofNat_of_zero_le (show 0 ≤ t - s.c by omega)
    obtain rfl : t = (s.c : Int) + (q : Int) := by omega
    obtain ⟨p, hp⟩ : ∃ p, (plcs s.f s.b)[q]? = some p := ⟨_, List.getElem?_eq_getElem (by rw [plcs_length]; omega)⟩
    obtain ⟨p1, p2, p3⟩ := plcs_get _ _ _ _ hp
    have e1 : backI s.f s.c s.b ((s.c : Int) + (q : Int)) = p := by
      unfold backI
      rw [if_pos h1, hq, Int.toNat_natCast, List.getD_eq_getElem?_getD, hp]
      rfl
    have e2 : backB s.f s.c s.b ((s.c : Int) + (q : Int)) = true := by
      unfold backB
      rw [decide_eq_true h1, decide_eq_true h2]
      rfl
    rw [e1, e2]
    have := back_in s.gs s.bs s.a s.b s.c (nums size) s.cap s.sv s.f p w h.S p2 (Nat.lt_of_lt_of_le p1 h.S.b1)
    rw [p3] at this
    exact this
  · have e2 : backB s.f s.c s.b t = false := by
      rw [Bool.eq_false_iff]
      intro hb
      unfold backB at hb
      simp only [Bool.and_eq_true, decide_eq_true_eq] at hb
      exact hin hb
    have e1 : backI s.f s.c s.b t = 0 := by
      unfold backI
      split
      · rename_i h1
        have h3 : (plcs s.f s.b).length ≤ (t - s.c).toNat := by rw [plcs_length]; omega
        rw [List.getD_eq_getElem?_getD, List.getElem?_eq_none h3]
        rfl
      · rfl
    rw [e1, e2]
    refine back_out s.gs s.bs s.a s.b s.c (nums size) s.cap s.sv s.f t w h.S ?_ hl
    rw [h.t]
    omega

/-- The slide that is asked. -/
theorem Dk.at {w0 w : World} {d g gb r rb size : Nat} {F : Nat → Bool} {sv tv : Value} {K : List Sl} (h : Dk w0 w d g gb r rb size F sv tv K) {i : Nat} (hi : i < K.length) :
    ∃ (s : Sl) (gS oS cS gT oT cT : Nat), s.ok w size ∧ sv = .slice (some ⟨gS, oS, none⟩) K.length cS ∧ tv = .slice (some ⟨gT, oT, none⟩) K.length cT ∧ w.cell? ⟨gS, oS + i, none⟩ = some (.pointer (some ⟨s.gs, 0, none⟩)) ∧ w.cell? ⟨gT, oT + i, none⟩ = some (.pointer (some ⟨s.rs, 0, none⟩)) := by
  obtain ⟨gS, oS, cS, e1, _, _, _, _, _, _, hS⟩ := h.S.form (by omega)
  obtain ⟨gT, oT, cT, e2, _, _, _, _, _, _, hT⟩ := h.T.form (by omega)
  have hs : K[i]? = some K[i] := List.getElem?_eq_getElem hi
  refine ⟨K[i], gS, oS, cS, gT, oT, cT, (h.A _ (List.getElem_mem hi)).1, e1, e2, hS i _ ?_, hT i _ ?_⟩
  · rw [List.getElem?_map, hs]; rfl
  · rw [List.getElem?_map, hs]; rfl

set_option maxRecDepth 100000 in
theorem slides_idle (d g gb r rb size : Nat) (F : Nat → Bool) (sv tv : Value) (o a b c : Int) (w0 w : World) (h : Dk w0 w d g gb r rb size F sv tv []) (ho : o ≠ 8) :
    Calls Tryd.prog 55 #[.pointer (some ⟨d, 0, none⟩), .agg #[.int .i64 o, .int .i64 a, .int .i64 b, .int .i64 c]] w (PlayOk w0 d g gb r size) := by
  obtain ⟨wa, hwa⟩ : ∃ wa, wa = w.alloc (.cells #[.int .i64 o, .int .i64 a, .int .i64 b, .int .i64 c] 72) := ⟨_, rfl⟩
  obtain ⟨hP, hD⟩ := DOp.of h hwa
  have HWA := Lib.hid hwa
  have c0 : wa.cell? ⟨w.heap.size, 0, none⟩ = some (.int .i64 o) := hP.P.cell 0
  have x8 : (o == 8) = false := by simpa using ho
  obtain ⟨A, cp, rfl, _, _⟩ := hD.S.look
  have c2 : wa.cell? ⟨d, 2, none⟩ = some (.slice A 0 cp) := hP.B.cell 2
  have HD := Lib.hid hD
  clear h hwa hP hD
  go_enter Tryd.func55, Tryd.ntmps55
  go_upto_region 1 with fail
  rw [← HWA.out]
  go_wp2_with fail
  go_ret
  exact ⟨rfl, rb, _, _, tv, _, HD.out⟩

/-- Where the number that is asked for points. -/
theorem idx_of {b : Int} {k : Nat} (hk : 0 < k) (hk6 : k ≤ 6) : ∃ t : Int, b.tmod (k : Int) = t ∧ -9223372036854775808 ≤ t ∧ t ≤ 9223372036854775807 ∧ (t < 0 ∨ ∃ i : Nat, t = i ∧ i < k) := by
  refine ⟨_, rfl, ?_⟩
  rcases Int.lt_or_le b 0 with hb | hb
  · have h1 := Int.tmod_lt_of_pos (-b) (show (0 : Int) < (k : Int) by omega)
    have h2 := Int.tmod_nonneg (k : Int) (show (0 : Int) ≤ -b by omega)
    rw [Int.neg_tmod] at h1 h2
    refine ⟨by omega, by omega, ?_⟩
    rcases Int.lt_or_le (b.tmod k) 0 with h | h
    · exact .inl h
    · exact .inr ⟨0, by omega, hk⟩
  · have h1 := Int.tmod_lt_of_pos b (show (0 : Int) < (k : Int) by omega)
    have h2 := Int.tmod_nonneg (k : Int) hb
    exact ⟨by omega, by omega, .inr ⟨(b.tmod k).toNat, by omega, by omega⟩⟩

set_option maxRecDepth 100000 in
set_option maxHeartbeats 1600000 in
theorem slides_to_neg (d g gb r rb size : Nat) (F : Nat → Bool) (sv tv : Value) (K : List Sl) (a b c : Int) (w0 w : World) (h : Dk w0 w d g gb r rb size F sv tv K) (hk0 : 0 < K.length) (hl : -9223372036854775808 ≤ a ∧ a ≤ 9223372036854775807)
    (t : Int) (ht : b.tmod (K.length : Int) = t) (hw : -9223372036854775808 ≤ t ∧ t ≤ 9223372036854775807) (hi : t < 0) :
    Calls Tryd.prog 55 #[.pointer (some ⟨d, 0, none⟩), .agg #[.int .i64 9, .int .i64 a, .int .i64 b, .int .i64 c]] w (PlayOk w0 d g gb r size) := by
  obtain ⟨wa, hwa⟩ : ∃ wa, wa = w.alloc (.cells #[.int .i64 9, .int .i64 a, .int .i64 b, .int .i64 c] 72) := ⟨_, rfl⟩
  obtain ⟨hP, hD⟩ := DOp.of h hwa
  have HWA := Lib.hid hwa
  have hk6 := h.k6
  obtain ⟨s, gS, oS, cS, gT, oT, cT, hok, rfl, rfl, cs, ct⟩ := hD.at (i := 0) hk0
  obtain ⟨k, hk⟩ : ∃ k, K.length = k := ⟨_, rfl⟩
  have c0 : wa.cell? ⟨w.heap.size, 0, none⟩ = some (.int .i64 9) := hP.P.cell 0
  have c1 : wa.cell? ⟨w.heap.size, 1, none⟩ = some (.int .i64 a) := hP.P.cell 1
  have c2 : wa.cell? ⟨w.heap.size, 2, none⟩ = some (.int .i64 b) := hP.P.cell 2
  have d2 : wa.cell? ⟨d, 2, none⟩ = some (.slice (some ⟨gS, oS, none⟩) K.length cS) := hP.B.cell 2
  have d3 : wa.cell? ⟨d, 3, none⟩ = some (.slice (some ⟨gT, oT, none⟩) K.length cT) := hP.B.cell 3
  have HD := Lib.hid hD
  have HOK := Lib.hid hok
  have tw : IntKind.i64.wrap t = t := IntWalk.i64_in _ hw
  rw [hk] at ht d2 d3 hk0 hk6
  have hneg : decide (t < 0) = true := decide_eq_true hi
  have ik : (0 : Int) < (k : Int) := by omega
  try simp only [Nat.add_zero] at cs ct
  have kz : ((k : Int) == 0) = false := by simpa using (show ¬ (k : Int) = 0 by omega)
  have kn : ¬ (k : Int) = 0 := by omega
  have km : ¬ k = 0 := by omega
  have HA1 : Hid (∀ n, Sl.ok (wa.drewN n) size s) := fun n => HOK.out.fr ((Fr.refl [] _).drewN n) (by simp)
  have HAO : Hid (∀ n, On (wa.drewN n)) := fun n => HD.out.O.drewN n
  obtain ⟨X, hX⟩ : ∃ X, toI s.f s.a s.b s.c a = X := ⟨_, rfl⟩
  obtain ⟨B, hB⟩ : ∃ B, toB s.f s.a s.b a = B := ⟨_, rfl⟩
  have H1 : Hid (∀ n, Calls Tryd.prog 16 #[.pointer (some ⟨s.gs, 0, none⟩), .int .i64 a] (wa.drewN n) fun e w' => e = .returned (.tuple #[.int .i64 X, .bool B]) ∧ ∃ m, w' = (wa.drewN n).drewN m) := fun n => by
    rw [← hX, ← hB]
    exact to_any s.gs s.bs s.a s.b s.c (nums size) s.cap s.sv s.f a _ (HA1.out n).S (HAO.out n)
  have H2 : Hid (∀ n, Calls Tryd.prog 60 #[.pointer (some ⟨s.rs, 0, none⟩), .int .i64 a] (wa.drewN n) fun e w' => e = .returned (.tuple #[.int .i64 X, .bool B]) ∧ wa.drewN n = w') := fun n => by
    rw [← hX, ← hB]
    exact rto_any s.rs s.a s.b s.c s.b s.lv s.f a _ (HA1.out n).R (HA1.out n).i (Nat.le_refl _)
  have x1 : (X == X) = true := by simp
  have x2 : (B == B) = true := by simp
  clear h hwa hP hD hok hX hB
  go_enter Tryd.func55, Tryd.ntmps55
  go_upto_region 1 with fail
  rw [← HWA.out]
  go_upto_region 12 with fail
  go_quiet (fail)
  go_upto_region 17 with fail
  go_quiet ((go_at_call 16; (first | (with_reducible exact quiet_add (H1.out _)) | (with_reducible exact quiet_zero (H1.out _)) | exact qleft (H1.out _) | exact qadd (H1.out _))))
  go_upto_region 18 with fail
  go_quiet ((go_at_call 60; (first | (with_reducible exact quiet_add (H2.out _)) | (with_reducible exact quiet_zero (H2.out _)) | exact qleft (H2.out _) | exact qadd (H2.out _))))
  go_wp2_with fail
  go_ret
  exact ⟨rfl, rb, _, _, _, K, HD.out.ask (by repeat (first | exact Fr.refl _ _ | refine Fr.drewN ?_ _))⟩

set_option maxRecDepth 100000 in
set_option maxHeartbeats 1600000 in
theorem slides_to (d g gb r rb size : Nat) (F : Nat → Bool) (sv tv : Value) (K : List Sl) (a b c : Int) (w0 w : World) (h : Dk w0 w d g gb r rb size F sv tv K) (hk0 : 0 < K.length) (hl : -9223372036854775808 ≤ a ∧ a ≤ 9223372036854775807)
    (t : Int) (i : Nat) (ht : b.tmod (K.length : Int) = t) (hw : -9223372036854775808 ≤ t ∧ t ≤ 9223372036854775807) (hi : t = i) (hik : i < K.length) :
    Calls Tryd.prog 55 #[.pointer (some ⟨d, 0, none⟩), .agg #[.int .i64 9, .int .i64 a, .int .i64 b, .int .i64 c]] w (PlayOk w0 d g gb r size) := by
  obtain ⟨wa, hwa⟩ : ∃ wa, wa = w.alloc (.cells #[.int .i64 9, .int .i64 a, .int .i64 b, .int .i64 c] 72) := ⟨_, rfl⟩
  obtain ⟨hP, hD⟩ := DOp.of h hwa
  have HWA := Lib.hid hwa
  have hk6 := h.k6
  obtain ⟨s, gS, oS, cS, gT, oT, cT, hok, rfl, rfl, cs, ct⟩ := hD.at (i := i) hik
  obtain ⟨k, hk⟩ : ∃ k, K.length = k := ⟨_, rfl⟩
  have c0 : wa.cell? ⟨w.heap.size, 0, none⟩ = some (.int .i64 9) := hP.P.cell 0
  have c1 : wa.cell? ⟨w.heap.size, 1, none⟩ = some (.int .i64 a) := hP.P.cell 1
  have c2 : wa.cell? ⟨w.heap.size, 2, none⟩ = some (.int .i64 b) := hP.P.cell 2
  have d2 : wa.cell? ⟨d, 2, none⟩ = some (.slice (some ⟨gS, oS, none⟩) K.length cS) := hP.B.cell 2
  have d3 : wa.cell? ⟨d, 3, none⟩ = some (.slice (some ⟨gT, oT, none⟩) K.length cT) := hP.B.cell 3
  have HD := Lib.hid hD
  have HOK := Lib.hid hok
  have tw : IntKind.i64.wrap t = t := IntWalk.i64_in _ hw
  rw [hk] at ht d2 d3 hk0 hk6 hik
  subst hi
  have hneg : decide ((i : Int) < 0) = false := decide_eq_false (by omega)
  have ik : (i : Int) < (k : Int) := by omega
  have i0 : (0 : Int) ≤ (i : Int) := by omega
  have kz : ((k : Int) == 0) = false := by simpa using (show ¬ (k : Int) = 0 by omega)
  have kn : ¬ (k : Int) = 0 := by omega
  have km : ¬ k = 0 := by omega
  have HA1 : Hid (∀ n, Sl.ok (wa.drewN n) size s) := fun n => HOK.out.fr ((Fr.refl [] _).drewN n) (by simp)
  have HAO : Hid (∀ n, On (wa.drewN n)) := fun n => HD.out.O.drewN n
  obtain ⟨X, hX⟩ : ∃ X, toI s.f s.a s.b s.c a = X := ⟨_, rfl⟩
  obtain ⟨B, hB⟩ : ∃ B, toB s.f s.a s.b a = B := ⟨_, rfl⟩
  have H1 : Hid (∀ n, Calls Tryd.prog 16 #[.pointer (some ⟨s.gs, 0, none⟩), .int .i64 a] (wa.drewN n) fun e w' => e = .returned (.tuple #[.int .i64 X, .bool B]) ∧ ∃ m, w' = (wa.drewN n).drewN m) := fun n => by
    rw [← hX, ← hB]
    exact to_any s.gs s.bs s.a s.b s.c (nums size) s.cap s.sv s.f a _ (HA1.out n).S (HAO.out n)
  have H2 : Hid (∀ n, Calls Tryd.prog 60 #[.pointer (some ⟨s.rs, 0, none⟩), .int .i64 a] (wa.drewN n) fun e w' => e = .returned (.tuple #[.int .i64 X, .bool B]) ∧ wa.drewN n = w') := fun n => by
    rw [← hX, ← hB]
    exact rto_any s.rs s.a s.b s.c s.b s.lv s.f a _ (HA1.out n).R (HA1.out n).i (Nat.le_refl _)
  have x1 : (X == X) = true := by simp
  have x2 : (B == B) = true := by simp
  clear h hwa hP hD hok hX hB
  go_enter Tryd.func55, Tryd.ntmps55
  go_upto_region 1 with fail
  rw [← HWA.out]
  go_upto_region 12 with fail
  go_quiet (fail)
  go_upto_region 17 with fail
  go_quiet ((go_at_call 16; (first | (with_reducible exact quiet_add (H1.out _)) | (with_reducible exact quiet_zero (H1.out _)) | exact qleft (H1.out _) | exact qadd (H1.out _))))
  go_upto_region 18 with fail
  go_quiet ((go_at_call 60; (first | (with_reducible exact quiet_add (H2.out _)) | (with_reducible exact quiet_zero (H2.out _)) | exact qleft (H2.out _) | exact qadd (H2.out _))))
  go_wp2_with fail
  go_ret
  exact ⟨rfl, rb, _, _, _, K, HD.out.ask (by repeat (first | exact Fr.refl _ _ | refine Fr.drewN ?_ _))⟩

set_option maxRecDepth 100000 in
set_option maxHeartbeats 1600000 in
theorem slides_back_neg (d g gb r rb size : Nat) (F : Nat → Bool) (sv tv : Value) (K : List Sl) (a b c : Int) (w0 w : World) (h : Dk w0 w d g gb r rb size F sv tv K) (hk0 : 0 < K.length) (hl : -9223372036854775808 ≤ a ∧ a ≤ 9223372036854775807)
    (t : Int) (ht : b.tmod (K.length : Int) = t) (hw : -9223372036854775808 ≤ t ∧ t ≤ 9223372036854775807) (hi : t < 0) :
    Calls Tryd.prog 55 #[.pointer (some ⟨d, 0, none⟩), .agg #[.int .i64 10, .int .i64 a, .int .i64 b, .int .i64 c]] w (PlayOk w0 d g gb r size) := by
  obtain ⟨wa, hwa⟩ : ∃ wa, wa = w.alloc (.cells #[.int .i64 10, .int .i64 a, .int .i64 b, .int .i64 c] 72) := ⟨_, rfl⟩
  obtain ⟨hP, hD⟩ := DOp.of h hwa
  have HWA := Lib.hid hwa
  have hk6 := h.k6
  obtain ⟨s, gS, oS, cS, gT, oT, cT, hok, rfl, rfl, cs, ct⟩ := hD.at (i := 0) hk0
  obtain ⟨k, hk⟩ : ∃ k, K.length = k := ⟨_, rfl⟩
  have c0 : wa.cell? ⟨w.heap.size, 0, none⟩ = some (.int .i64 10) := hP.P.cell 0
  have c1 : wa.cell? ⟨w.heap.size, 1, none⟩ = some (.int .i64 a) := hP.P.cell 1
  have c2 : wa.cell? ⟨w.heap.size, 2, none⟩ = some (.int .i64 b) := hP.P.cell 2
  have d2 : wa.cell? ⟨d, 2, none⟩ = some (.slice (some ⟨gS, oS, none⟩) K.length cS) := hP.B.cell 2
  have d3 : wa.cell? ⟨d, 3, none⟩ = some (.slice (some ⟨gT, oT, none⟩) K.length cT) := hP.B.cell 3
  have HD := Lib.hid hD
  have HOK := Lib.hid hok
  have tw : IntKind.i64.wrap t = t := IntWalk.i64_in _ hw
  rw [hk] at ht d2 d3 hk0 hk6
  have hneg : decide (t < 0) = true := decide_eq_true hi
  have ik : (0 : Int) < (k : Int) := by omega
  try simp only [Nat.add_zero] at cs ct
  have kz : ((k : Int) == 0) = false := by simpa using (show ¬ (k : Int) = 0 by omega)
  have kn : ¬ (k : Int) = 0 := by omega
  have km : ¬ k = 0 := by omega
  have HA1 : Hid (∀ n, Sl.ok (wa.drewN n) size s) := fun n => HOK.out.fr ((Fr.refl [] _).drewN n) (by simp)
  have HAO : Hid (∀ n, On (wa.drewN n)) := fun n => HD.out.O.drewN n
  obtain ⟨X, hX⟩ : ∃ X, backI s.f s.c s.b a = X := ⟨_, rfl⟩
  obtain ⟨B, hB⟩ : ∃ B, backB s.f s.c s.b a = B := ⟨_, rfl⟩
  have H1 : Hid (∀ n, Calls Tryd.prog 29 #[.pointer (some ⟨s.gs, 0, none⟩), .int .i64 a] (wa.drewN n) fun e w' => e = .returned (.tuple #[.int .i64 X, .bool B]) ∧ wa.drewN n = w') := fun n => by
    rw [← hX, ← hB]
    exact sback_any s _ size (HA1.out n) a hl
  have H2 : Hid (∀ n, Calls Tryd.prog 61 #[.pointer (some ⟨s.rs, 0, none⟩), .int .i64 a] (wa.drewN n) fun e w' => e = .returned (.tuple #[.int .i64 X, .bool B]) ∧ ∃ m, w' = (wa.drewN n).drewN m) := fun n => by
    rw [← hX, ← hB]
    exact rback_any s.rs s.c s.b s.lv s.f a _ (HA1.out n).R hl.2
  have x1 : (X == X) = true := by simp
  have x2 : (B == B) = true := by simp
  clear h hwa hP hD hok hX hB
  go_enter Tryd.func55, Tryd.ntmps55
  go_upto_region 1 with fail
  rw [← HWA.out]
  go_upto_region 12 with fail
  go_quiet (fail)
  go_upto_region 21 with fail
  go_quiet ((go_at_call 29; (first | (with_reducible exact quiet_add (H1.out _)) | (with_reducible exact quiet_zero (H1.out _)) | exact qleft (H1.out _) | exact qadd (H1.out _))))
  go_upto_region 22 with fail
  go_quiet ((go_at_call 61; (first | (with_reducible exact quiet_add (H2.out _)) | (with_reducible exact quiet_zero (H2.out _)) | exact qleft (H2.out _) | exact qadd (H2.out _))))
  go_wp2_with fail
  go_ret
  exact ⟨rfl, rb, _, _, _, K, HD.out.ask (by repeat (first | exact Fr.refl _ _ | refine Fr.drewN ?_ _))⟩

set_option maxRecDepth 100000 in
set_option maxHeartbeats 1600000 in
theorem slides_back (d g gb r rb size : Nat) (F : Nat → Bool) (sv tv : Value) (K : List Sl) (a b c : Int) (w0 w : World) (h : Dk w0 w d g gb r rb size F sv tv K) (hk0 : 0 < K.length) (hl : -9223372036854775808 ≤ a ∧ a ≤ 9223372036854775807)
    (t : Int) (i : Nat) (ht : b.tmod (K.length : Int) = t) (hw : -9223372036854775808 ≤ t ∧ t ≤ 9223372036854775807) (hi : t = i) (hik : i < K.length) :
    Calls Tryd.prog 55 #[.pointer (some ⟨d, 0, none⟩), .agg #[.int .i64 10, .int .i64 a, .int .i64 b, .int .i64 c]] w (PlayOk w0 d g gb r size) := by
  obtain ⟨wa, hwa⟩ : ∃ wa, wa = w.alloc (.cells #[.int .i64 10, .int .i64 a, .int .i64 b, .int .i64 c] 72) := ⟨_, rfl⟩
  obtain ⟨hP, hD⟩ := DOp.of h hwa
  have HWA := Lib.hid hwa
  have hk6 := h.k6
  obtain ⟨s, gS, oS, cS, gT, oT, cT, hok, rfl, rfl, cs, ct⟩ := hD.at (i := i) hik
  obtain ⟨k, hk⟩ : ∃ k, K.length = k := ⟨_, rfl⟩
  have c0 : wa.cell? ⟨w.heap.size, 0, none⟩ = some (.int .i64 10) := hP.P.cell 0
  have c1 : wa.cell? ⟨w.heap.size, 1, none⟩ = some (.int .i64 a) := hP.P.cell 1
  have c2 : wa.cell? ⟨w.heap.size, 2, none⟩ = some (.int .i64 b) := hP.P.cell 2
  have d2 : wa.cell? ⟨d, 2, none⟩ = some (.slice (some ⟨gS, oS, none⟩) K.length cS) := hP.B.cell 2
  have d3 : wa.cell? ⟨d, 3, none⟩ = some (.slice (some ⟨gT, oT, none⟩) K.length cT) := hP.B.cell 3
  have HD := Lib.hid hD
  have HOK := Lib.hid hok
  have tw : IntKind.i64.wrap t = t := IntWalk.i64_in _ hw
  rw [hk] at ht d2 d3 hk0 hk6 hik
  subst hi
  have hneg : decide ((i : Int) < 0) = false := decide_eq_false (by omega)
  have ik : (i : Int) < (k : Int) := by omega
  have i0 : (0 : Int) ≤ (i : Int) := by omega
  have kz : ((k : Int) == 0) = false := by simpa using (show ¬ (k : Int) = 0 by omega)
  have kn : ¬ (k : Int) = 0 := by omega
  have km : ¬ k = 0 := by omega
  have HA1 : Hid (∀ n, Sl.ok (wa.drewN n) size s) := fun n => HOK.out.fr ((Fr.refl [] _).drewN n) (by simp)
  have HAO : Hid (∀ n, On (wa.drewN n)) := fun n => HD.out.O.drewN n
  obtain ⟨X, hX⟩ : ∃ X, backI s.f s.c s.b a = X := ⟨_, rfl⟩
  obtain ⟨B, hB⟩ : ∃ B, backB s.f s.c s.b a = B := ⟨_, rfl⟩
  have H1 : Hid (∀ n, Calls Tryd.prog 29 #[.pointer (some ⟨s.gs, 0, none⟩), .int .i64 a] (wa.drewN n) fun e w' => e = .returned (.tuple #[.int .i64 X, .bool B]) ∧ wa.drewN n = w') := fun n => by
    rw [← hX, ← hB]
    exact sback_any s _ size (HA1.out n) a hl
  have H2 : Hid (∀ n, Calls Tryd.prog 61 #[.pointer (some ⟨s.rs, 0, none⟩), .int .i64 a] (wa.drewN n) fun e w' => e = .returned (.tuple #[.int .i64 X, .bool B]) ∧ ∃ m, w' = (wa.drewN n).drewN m) := fun n => by
    rw [← hX, ← hB]
    exact rback_any s.rs s.c s.b s.lv s.f a _ (HA1.out n).R hl.2
  have x1 : (X == X) = true := by simp
  have x2 : (B == B) = true := by simp
  clear h hwa hP hD hok hX hB
  go_enter Tryd.func55, Tryd.ntmps55
  go_upto_region 1 with fail
  rw [← HWA.out]
  go_upto_region 12 with fail
  go_quiet (fail)
  go_upto_region 21 with fail
  go_quiet ((go_at_call 29; (first | (with_reducible exact quiet_add (H1.out _)) | (with_reducible exact quiet_zero (H1.out _)) | exact qleft (H1.out _) | exact qadd (H1.out _))))
  go_upto_region 22 with fail
  go_quiet ((go_at_call 61; (first | (with_reducible exact quiet_add (H2.out _)) | (with_reducible exact quiet_zero (H2.out _)) | exact qleft (H2.out _) | exact qadd (H2.out _))))
  go_wp2_with fail
  go_ret
  exact ⟨rfl, rb, _, _, _, K, HD.out.ask (by repeat (first | exact Fr.refl _ _ | refine Fr.drewN ?_ _))⟩

set_option maxRecDepth 100000 in
set_option maxHeartbeats 1600000 in
theorem slides_total_neg (d g gb r rb size : Nat) (F : Nat → Bool) (sv tv : Value) (K : List Sl) (a b c : Int) (w0 w : World) (h : Dk w0 w d g gb r rb size F sv tv K) (hk0 : 0 < K.length) (hl : -9223372036854775808 ≤ a ∧ a ≤ 9223372036854775807)
    (t : Int) (ht : b.tmod (K.length : Int) = t) (hw : -9223372036854775808 ≤ t ∧ t ≤ 9223372036854775807) (hi : t < 0) :
    Calls Tryd.prog 55 #[.pointer (some ⟨d, 0, none⟩), .agg #[.int .i64 11, .int .i64 a, .int .i64 b, .int .i64 c]] w (PlayOk w0 d g gb r size) := by
  obtain ⟨wa, hwa⟩ : ∃ wa, wa = w.alloc (.cells #[.int .i64 11, .int .i64 a, .int .i64 b, .int .i64 c] 72) := ⟨_, rfl⟩
  obtain ⟨hP, hD⟩ := DOp.of h hwa
  have HWA := Lib.hid hwa
  have hk6 := h.k6
  obtain ⟨s, gS, oS, cS, gT, oT, cT, hok, rfl, rfl, cs, ct⟩ := hD.at (i := 0) hk0
  obtain ⟨k, hk⟩ : ∃ k, K.length = k := ⟨_, rfl⟩
  have c0 : wa.cell? ⟨w.heap.size, 0, none⟩ = some (.int .i64 11) := hP.P.cell 0
  have c1 : wa.cell? ⟨w.heap.size, 1, none⟩ = some (.int .i64 a) := hP.P.cell 1
  have c2 : wa.cell? ⟨w.heap.size, 2, none⟩ = some (.int .i64 b) := hP.P.cell 2
  have d2 : wa.cell? ⟨d, 2, none⟩ = some (.slice (some ⟨gS, oS, none⟩) K.length cS) := hP.B.cell 2
  have d3 : wa.cell? ⟨d, 3, none⟩ = some (.slice (some ⟨gT, oT, none⟩) K.length cT) := hP.B.cell 3
  have HD := Lib.hid hD
  have HOK := Lib.hid hok
  have tw : IntKind.i64.wrap t = t := IntWalk.i64_in _ hw
  rw [hk] at ht d2 d3 hk0 hk6
  have hneg : decide (t < 0) = true := decide_eq_true hi
  have ik : (0 : Int) < (k : Int) := by omega
  try simp only [Nat.add_zero] at cs ct
  have kz : ((k : Int) == 0) = false := by simpa using (show ¬ (k : Int) = 0 by omega)
  have kn : ¬ (k : Int) = 0 := by omega
  have km : ¬ k = 0 := by omega
  have HA1 : Hid (∀ n, Sl.ok (wa.drewN n) size s) := fun n => HOK.out.fr ((Fr.refl [] _).drewN n) (by simp)
  have HAO : Hid (∀ n, On (wa.drewN n)) := fun n => HD.out.O.drewN n
  obtain ⟨N, hN⟩ : ∃ N, cnt s.f 0 s.b = N := ⟨_, rfl⟩
  have H1 : Hid (∀ n, Calls Tryd.prog 17 #[.pointer (some ⟨s.gs, 0, none⟩)] (wa.drewN n) fun e w' => e = .returned (.int .i64 (N : Nat)) ∧ wa.drewN n = w') := fun n => by
    rw [← hN, ← (HA1.out n).t]
    exact total_any s.gs s.bs s.a s.b s.c (nums size) s.cap s.sv s.f _ (HA1.out n).S
  have hL := hok.R.L
  rw [hN] at hL
  obtain ⟨AL, cL, hlv, _, _⟩ := hL.look
  have e1 : wa.cell? ⟨s.rs, 1, none⟩ = some (.slice AL N cL) := by rw [hok.R.B.cell 1, hlv]; rfl
  have x1 : ((N : Int) == (N : Int)) = true := by simp
  clear h hwa hP hD hok hN hL hlv
  go_enter Tryd.func55, Tryd.ntmps55
  go_upto_region 1 with fail
  rw [← HWA.out]
  go_upto_region 12 with fail
  go_quiet (fail)
  go_wp2_with fail
  refine (Calls.mono (H1.out _) ?_)
  rintro e w1 ⟨rfl, rfl⟩
  go_wp2_with fail
  go_ret
  exact ⟨rfl, rb, _, _, _, K, HD.out.ask (by repeat (first | exact Fr.refl _ _ | refine Fr.drewN ?_ _))⟩

set_option maxRecDepth 100000 in
set_option maxHeartbeats 1600000 in
theorem slides_total (d g gb r rb size : Nat) (F : Nat → Bool) (sv tv : Value) (K : List Sl) (a b c : Int) (w0 w : World) (h : Dk w0 w d g gb r rb size F sv tv K) (hk0 : 0 < K.length) (hl : -9223372036854775808 ≤ a ∧ a ≤ 9223372036854775807)
    (t : Int) (i : Nat) (ht : b.tmod (K.length : Int) = t) (hw : -9223372036854775808 ≤ t ∧ t ≤ 9223372036854775807) (hi : t = i) (hik : i < K.length) :
    Calls Tryd.prog 55 #[.pointer (some ⟨d, 0, none⟩), .agg #[.int .i64 11, .int .i64 a, .int .i64 b, .int .i64 c]] w (PlayOk w0 d g gb r size) := by
  obtain ⟨wa, hwa⟩ : ∃ wa, wa = w.alloc (.cells #[.int .i64 11, .int .i64 a, .int .i64 b, .int .i64 c] 72) := ⟨_, rfl⟩
  obtain ⟨hP, hD⟩ := DOp.of h hwa
  have HWA := Lib.hid hwa
  have hk6 := h.k6
  obtain ⟨s, gS, oS, cS, gT, oT, cT, hok, rfl, rfl, cs, ct⟩ := hD.at (i := i) hik
  obtain ⟨k, hk⟩ : ∃ k, K.length = k := ⟨_, rfl⟩
  have c0 : wa.cell? ⟨w.heap.size, 0, none⟩ = some (.int .i64 11) := hP.P.cell 0
  have c1 : wa.cell? ⟨w.heap.size, 1, none⟩ = some (.int .i64 a) := hP.P.cell 1
  have c2 : wa.cell? ⟨w.heap.size, 2, none⟩ = some (.int .i64 b) := hP.P.cell 2
  have d2 : wa.cell? ⟨d, 2, none⟩ = some (.slice (some ⟨gS, oS, none⟩) K.length cS) := hP.B.cell 2
  have d3 : wa.cell? ⟨d, 3, none⟩ = some (.slice (some ⟨gT, oT, none⟩) K.length cT) := hP.B.cell 3
  have HD := Lib.hid hD
  have HOK := Lib.hid hok
  have tw : IntKind.i64.wrap t = t := IntWalk.i64_in _ hw
  rw [hk] at ht d2 d3 hk0 hk6 hik
  subst hi
  have hneg : decide ((i : Int) < 0) = false := decide_eq_false (by omega)
  have ik : (i : Int) < (k : Int) := by omega
  have i0 : (0 : Int) ≤ (i : Int) := by omega
  have kz : ((k : Int) == 0) = false := by simpa using (show ¬ (k : Int) = 0 by omega)
  have kn : ¬ (k : Int) = 0 := by omega
  have km : ¬ k = 0 := by omega
  have HA1 : Hid (∀ n, Sl.ok (wa.drewN n) size s) := fun n => HOK.out.fr ((Fr.refl [] _).drewN n) (by simp)
  have HAO : Hid (∀ n, On (wa.drewN n)) := fun n => HD.out.O.drewN n
  obtain ⟨N, hN⟩ : ∃ N, cnt s.f 0 s.b = N := ⟨_, rfl⟩
  have H1 : Hid (∀ n, Calls Tryd.prog 17 #[.pointer (some ⟨s.gs, 0, none⟩)] (wa.drewN n) fun e w' => e = .returned (.int .i64 (N : Nat)) ∧ wa.drewN n = w') := fun n => by
    rw [← hN, ← (HA1.out n).t]
    exact total_any s.gs s.bs s.a s.b s.c (nums size) s.cap s.sv s.f _ (HA1.out n).S
  have hL := hok.R.L
  rw [hN] at hL
  obtain ⟨AL, cL, hlv, _, _⟩ := hL.look
  have e1 : wa.cell? ⟨s.rs, 1, none⟩ = some (.slice AL N cL) := by rw [hok.R.B.cell 1, hlv]; rfl
  have x1 : ((N : Int) == (N : Int)) = true := by simp
  clear h hwa hP hD hok hN hL hlv
  go_enter Tryd.func55, Tryd.ntmps55
  go_upto_region 1 with fail
  rw [← HWA.out]
  go_upto_region 12 with fail
  go_quiet (fail)
  go_wp2_with fail
  refine (Calls.mono (H1.out _) ?_)
  rintro e w1 ⟨rfl, rfl⟩
  go_wp2_with fail
  go_ret
  exact ⟨rfl, rb, _, _, _, K, HD.out.ask (by repeat (first | exact Fr.refl _ _ | refine Fr.drewN ?_ _))⟩
end Go.Proofs.YtheiacfdbhjbmaaDoor
