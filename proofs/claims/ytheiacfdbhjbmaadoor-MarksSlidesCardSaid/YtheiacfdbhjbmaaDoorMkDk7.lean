/-
  Marks: the desk: every call, whatever it is; how it begins; play.
-/
import Derived.Test.YtheiacfdbhjbmaaDoorMkDk6
namespace Go.Proofs.YtheiacfdbhjbmaaDoor
open Go.RowKit Go.Shelf Mk
set_option linter.unusedVariables false

/-- A call, as the script tells it. -/
structure Oq where
  k : Int
  a : Int
  b : Int
  c : Int
def inI (x : Int) : Prop := -9223372036854775808 ≤ x ∧ x ≤ 9223372036854775807
def Oq.wf (o : Oq) : Prop := inI o.k ∧ inI o.a ∧ inI o.b ∧ inI o.c
abbrev Oq.v (o : Oq) : Value := .agg #[.int .i64 o.k, .int .i64 o.a, .int .i64 o.b, .int .i64 o.c]

theorem slides_any (d g gb r rb size : Nat) (F : Nat → Bool) (sv tv : Value) (K : List Sl) (k a b c : Int) (w0 w : World) (h : Dk w0 w d g gb r rb size F sv tv K) (hk : 8 ≤ k ∧ k ≤ 11) (ha : inI a) :
    Calls Tryd.prog 55 #[.pointer (some ⟨d, 0, none⟩), .agg #[.int .i64 k, .int .i64 a, .int .i64 b, .int .i64 c]] w (PlayOk w0 d g gb r size) := by
  by_cases h8 : k = 8
  · subst h8
    by_cases hok : 0 ≤ a ∧ b ≤ size ∧ a ≤ b ∧ 0 ≤ c ∧ c ≤ 1048576
    · obtain ⟨h1, h2, h3, h4, h5⟩ := hok
      obtain ⟨a, rfl⟩ := Int.eq_ofNat_of_zero_le h1
      obtain ⟨b, rfl⟩ := Int.eq_ofNat_of_zero_le (show 0 ≤ b by omega)
      obtain ⟨c, rfl⟩ := Int.eq_ofNat_of_zero_le h4
      exact slides_new d g gb r rb size F sv tv K a b c w0 w h (by omega) (by omega) (by omega)
    · exact slides_bad d g gb r rb size F sv tv K a b c w0 w h hok
  · rcases Nat.eq_zero_or_pos K.length with h0 | h0
    · obtain rfl : K = [] := List.eq_nil_of_length_eq_zero h0
      exact slides_idle d g gb r rb size F sv tv k a b c w0 w h h8
    · obtain ⟨t, ht, w1, w2, hc⟩ := idx_of (b := b) h0 h.k6
      have h9 : k = 9 ∨ k = 10 ∨ k = 11 := by omega
      rcases hc with hc | ⟨i, hc, hi⟩
      · rcases h9 with rfl | rfl | rfl
        · exact slides_to_neg d g gb r rb size F sv tv K a b c w0 w h h0 ha t ht ⟨w1, w2⟩ hc
        · exact slides_back_neg d g gb r rb size F sv tv K a b c w0 w h h0 ha t ht ⟨w1, w2⟩ hc
        · exact slides_total_neg d g gb r rb size F sv tv K a b c w0 w h h0 ha t ht ⟨w1, w2⟩ hc
      · rcases h9 with rfl | rfl | rfl
        · exact slides_to d g gb r rb size F sv tv K a b c w0 w h h0 ha t i ht ⟨w1, w2⟩ hc hi
        · exact slides_back d g gb r rb size F sv tv K a b c w0 w h h0 ha t i ht ⟨w1, w2⟩ hc hi
        · exact slides_total d g gb r rb size F sv tv K a b c w0 w h h0 ha t i ht ⟨w1, w2⟩ hc hi

set_option maxRecDepth 100000 in
theorem plays_slides8 (d g gb r rb size : Nat) (F : Nat → Bool) (sv tv : Value) (K : List Sl) (a b c : Int) (w0 w : World) (h : Dk w0 w d g gb r rb size F sv tv K) (ha : inI a) :
    Calls Tryd.prog 44 #[.pointer (some ⟨d, 0, none⟩), .agg #[.int .i64 8, .int .i64 a, .int .i64 b, .int .i64 c]] w (PlayOk w0 d g gb r size) := by
  obtain ⟨wa, hwa⟩ : ∃ wa, wa = w.alloc (.cells #[.int .i64 8, .int .i64 a, .int .i64 b, .int .i64 c] 72) := ⟨_, rfl⟩
  obtain ⟨hP, hD⟩ := DOp.of h hwa
  have HWA := Lib.hid hwa
  have c0 : wa.cell? ⟨w.heap.size, 0, none⟩ = some (.int .i64 8) := hP.P.cell 0
  have c1 : wa.cell? ⟨w.heap.size, 1, none⟩ = some (.int .i64 a) := hP.P.cell 1
  have c2 : wa.cell? ⟨w.heap.size, 2, none⟩ = some (.int .i64 b) := hP.P.cell 2
  have c3 : wa.cell? ⟨w.heap.size, 3, none⟩ = some (.int .i64 c) := hP.P.cell 3
  have HD := Lib.hid hD
  clear h hwa hP hD
  go_enter Tryd.func44, Tryd.ntmps44
  go_upto_region 1 with fail
  rw [← HWA.out]
  go_wp2_with fail
  refine (slides_any d g gb r rb size F sv tv K 8 a b c w0 wa HD.out (by omega) ha).mono ?_
  rintro e w1 ⟨rfl, hx⟩
  have HX := Lib.hid hx
  clear hx c0 c1 c2 c3
  go_wp2_with fail
  go_ret
  exact ⟨rfl, HX.out⟩

set_option maxRecDepth 100000 in
theorem plays_slides9 (d g gb r rb size : Nat) (F : Nat → Bool) (sv tv : Value) (K : List Sl) (a b c : Int) (w0 w : World) (h : Dk w0 w d g gb r rb size F sv tv K) (ha : inI a) :
    Calls Tryd.prog 44 #[.pointer (some ⟨d, 0, none⟩), .agg #[.int .i64 9, .int .i64 a, .int .i64 b, .int .i64 c]] w (PlayOk w0 d g gb r size) := by
  obtain ⟨wa, hwa⟩ : ∃ wa, wa = w.alloc (.cells #[.int .i64 9, .int .i64 a, .int .i64 b, .int .i64 c] 72) := ⟨_, rfl⟩
  obtain ⟨hP, hD⟩ := DOp.of h hwa
  have HWA := Lib.hid hwa
  have c0 : wa.cell? ⟨w.heap.size, 0, none⟩ = some (.int .i64 9) := hP.P.cell 0
  have c1 : wa.cell? ⟨w.heap.size, 1, none⟩ = some (.int .i64 a) := hP.P.cell 1
  have c2 : wa.cell? ⟨w.heap.size, 2, none⟩ = some (.int .i64 b) := hP.P.cell 2
  have c3 : wa.cell? ⟨w.heap.size, 3, none⟩ = some (.int .i64 c) := hP.P.cell 3
  have HD := Lib.hid hD
  clear h hwa hP hD
  go_enter Tryd.func44, Tryd.ntmps44
  go_upto_region 1 with fail
  rw [← HWA.out]
  go_wp2_with fail
  refine (slides_any d g gb r rb size F sv tv K 9 a b c w0 wa HD.out (by omega) ha).mono ?_
  rintro e w1 ⟨rfl, hx⟩
  have HX := Lib.hid hx
  clear hx c0 c1 c2 c3
  go_wp2_with fail
  go_ret
  exact ⟨rfl, HX.out⟩

set_option maxRecDepth 100000 in
theorem plays_slides10 (d g gb r rb size : Nat) (F : Nat → Bool) (sv tv : Value) (K : List Sl) (a b c : Int) (w0 w : World) (h : Dk w0 w d g gb r rb size F sv tv K) (ha : inI a) :
    Calls Tryd.prog 44 #[.pointer (some ⟨d, 0, none⟩), .agg #[.int .i64 10, .int .i64 a, .int .i64 b, .int .i64 c]] w (PlayOk w0 d g gb r size) := by
  obtain ⟨wa, hwa⟩ : ∃ wa, wa = w.alloc (.cells #[.int .i64 10, .int .i64 a, .int .i64 b, .int .i64 c] 72) := ⟨_, rfl⟩
  obtain ⟨hP, hD⟩ := DOp.of h hwa
  have HWA := Lib.hid hwa
  have c0 : wa.cell? ⟨w.heap.size, 0, none⟩ = some (.int .i64 10) := hP.P.cell 0
  have c1 : wa.cell? ⟨w.heap.size, 1, none⟩ = some (.int .i64 a) := hP.P.cell 1
  have c2 : wa.cell? ⟨w.heap.size, 2, none⟩ = some (.int .i64 b) := hP.P.cell 2
  have c3 : wa.cell? ⟨w.heap.size, 3, none⟩ = some (.int .i64 c) := hP.P.cell 3
  have HD := Lib.hid hD
  clear h hwa hP hD
  go_enter Tryd.func44, Tryd.ntmps44
  go_upto_region 1 with fail
  rw [← HWA.out]
  go_wp2_with fail
  refine (slides_any d g gb r rb size F sv tv K 10 a b c w0 wa HD.out (by omega) ha).mono ?_
  rintro e w1 ⟨rfl, hx⟩
  have HX := Lib.hid hx
  clear hx c0 c1 c2 c3
  go_wp2_with fail
  go_ret
  exact ⟨rfl, HX.out⟩

set_option maxRecDepth 100000 in
theorem plays_slides11 (d g gb r rb size : Nat) (F : Nat → Bool) (sv tv : Value) (K : List Sl) (a b c : Int) (w0 w : World) (h : Dk w0 w d g gb r rb size F sv tv K) (ha : inI a) :
    Calls Tryd.prog 44 #[.pointer (some ⟨d, 0, none⟩), .agg #[.int .i64 11, .int .i64 a, .int .i64 b, .int .i64 c]] w (PlayOk w0 d g gb r size) := by
  obtain ⟨wa, hwa⟩ : ∃ wa, wa = w.alloc (.cells #[.int .i64 11, .int .i64 a, .int .i64 b, .int .i64 c] 72) := ⟨_, rfl⟩
  obtain ⟨hP, hD⟩ := DOp.of h hwa
  have HWA := Lib.hid hwa
  have c0 : wa.cell? ⟨w.heap.size, 0, none⟩ = some (.int .i64 11) := hP.P.cell 0
  have c1 : wa.cell? ⟨w.heap.size, 1, none⟩ = some (.int .i64 a) := hP.P.cell 1
  have c2 : wa.cell? ⟨w.heap.size, 2, none⟩ = some (.int .i64 b) := hP.P.cell 2
  have c3 : wa.cell? ⟨w.heap.size, 3, none⟩ = some (.int .i64 c) := hP.P.cell 3
  have HD := Lib.hid hD
  clear h hwa hP hD
  go_enter Tryd.func44, Tryd.ntmps44
  go_upto_region 1 with fail
  rw [← HWA.out]
  go_wp2_with fail
  refine (slides_any d g gb r rb size F sv tv K 11 a b c w0 wa HD.out (by omega) ha).mono ?_
  rintro e w1 ⟨rfl, hx⟩
  have HX := Lib.hid hx
  clear hx c0 c1 c2 c3
  go_wp2_with fail
  go_ret
  exact ⟨rfl, HX.out⟩

theorem plays_any (d g gb r rb size : Nat) (F : Nat → Bool) (sv tv : Value) (K : List Sl) (o : Oq) (w0 w : World) (h : Dk w0 w d g gb r rb size F sv tv K) (ho : o.wf) :
    Calls Tryd.prog 44 #[.pointer (some ⟨d, 0, none⟩), o.v] w (PlayOk w0 d g gb r size) := by
  obtain ⟨k, a, b, c⟩ := o
  obtain ⟨h1, h2, h3, h4⟩ := ho
  by_cases hk : 1 ≤ k ∧ k ≤ 11
  · have hc : k = 1 ∨ k = 2 ∨ k = 3 ∨ k = 4 ∨ k = 5 ∨ k = 6 ∨ k = 7 ∨ k = 8 ∨ k = 9 ∨ k = 10 ∨ k = 11 := by omega
    rcases hc with rfl | rfl | rfl | rfl | rfl | rfl | rfl | rfl | rfl | rfl | rfl
    · exact plays_set d g gb r rb size F sv tv K a b c w0 w h h2.2 h3.2
    · exact plays_has d g gb r rb size F sv tv K a b c w0 w h
    · exact plays_count d g gb r rb size F sv tv K a b c w0 w h
    · exact plays_next d g gb r rb size F sv tv K a b c w0 w h h2.2
    · exact plays_runs d g gb r rb size F sv tv K a b c w0 w h
    · exact plays_words d g gb r rb size F sv tv K a b c w0 w h
    · exact plays_clear d g gb r rb size F sv tv K a b c w0 w h
    · exact plays_slides8 d g gb r rb size F sv tv K a b c w0 w h h2
    · exact plays_slides9 d g gb r rb size F sv tv K a b c w0 w h h2
    · exact plays_slides10 d g gb r rb size F sv tv K a b c w0 w h h2
    · exact plays_slides11 d g gb r rb size F sv tv K a b c w0 w h h2
  · exact plays_none d g gb r rb size F sv tv K k a b c w0 w h hk

/-! ### begin -/
theorem nxtI_none (size : Nat) (a : Int) : nxtI (fun _ => false) size a = -1 := by
  have e : size = nxt (fun _ => false) a.toNat size := nxt_of ⟨.inl rfl, fun _ _ _ => rfl⟩
  unfold nxtI
  rw [← e, if_neg (by omega)]
def lastF (words : Nat) : Nat → Bool := setF words (fun _ => false) ((words : Int) - 1) 1
theorem lastF_is {words : Nat} (h : 0 < words) : lastF words = fun j => decide (j = words - 1) := by
  have hfit : fits words ((words : Int) - 1) 1 = true := by unfold fits; simp; omega
  unfold lastF setF
  rw [if_pos hfit]
  funext j
  unfold addF
  rw [show ((words : Int) - 1).toNat = words - 1 by omega, Bool.false_or]
  rw [Bool.eq_iff_iff]
  simp
  omega
theorem last_next {words : Nat} (h : 0 < words) : nxtI (lastF words) words 0 = (words : Int) - 1 := by
  rw [lastF_is h]
  have e : words - 1 = nxt (fun j => decide (j = words - 1)) (0 : Int).toNat words := nxt_of ⟨.inr ⟨by simp, by omega, by simp⟩, fun j _ h2 => by simp; omega⟩
  unfold nxtI
  rw [← e, if_pos (by omega)]
  omega
theorem last_count {words : Nat} (h : 0 < words) : cntI (lastF words) words 0 words = 1 := by
  rw [lastF_is h]
  unfold cntI lowI highI
  rw [if_pos (by omega), Int.toNat_natCast, show (0 : Int).toNat = 0 from rfl, Nat.sub_zero]
  obtain ⟨q, rfl⟩ : ∃ q, words = q + 1 := ⟨words - 1, by omega⟩
  rw [cnt_add, Nat.zero_add]
  have z : cnt (fun j => decide (j = q + 1 - 1)) 0 q = 0 := cnt_zero (fun i hi => by simp; omega)
  rw [z]
  simp [cnt]
theorem last_set {words : Nat} (h : 0 < words) : setB words (fun _ => false) ((words : Int) - 1) 1 = true ∧ setE words ((words : Int) - 1) 1 = 0 := by
  have hfit : fits words ((words : Int) - 1) 1 = true := by unfold fits; simp; omega
  unfold setB setE
  rw [hfit, if_pos rfl]
  refine ⟨?_, rfl⟩
  have : cnt (fun _ => false) ((words : Int) - 1).toNat (1 : Int).toNat = 0 := cnt_zero (fun _ _ => rfl)
  rw [this]
  rfl

set_option maxRecDepth 100000 in
theorem begin_bad (words : Int) (w : World) (h : words < 0 ∨ 1048576 < words) :
    Calls Tryd.prog 43 #[.int .i64 words] w fun e w' => e = .returned (.tuple #[.pointer none, .bool true]) ∧ Fr [] w w' := by
  go_enter Tryd.func43, Tryd.ntmps43
  go_wp2_with fail
  refine (new_bad words w h).mono ?_
  rintro e w1 ⟨rfl, rfl⟩
  go_wp2_with fail
  refine (rnew_bad words w h).mono ?_
  rintro e w1 ⟨rfl, rfl⟩
  go_wp2_with fail
  refine (num_any 40 w).mono ?_
  rintro e w1 ⟨rfl, rfl⟩
  go_wp2_with fail
  go_ret2
  exact ⟨rfl, Fr.refl _ _⟩

def BeginOk (words : Nat) (w : World) (e : Ending) (w' : World) : Prop :=
  ∃ d g gb r rb, e = .returned (.tuple #[.pointer (some ⟨d, 0, none⟩), .bool true]) ∧ Dk w w' d g gb r rb words (fun _ => false) (.slice none 0 0) (.slice none 0 0) []

set_option maxRecDepth 100000 in
set_option maxHeartbeats 1600000 in
theorem begin_desk (words : Nat) (w : World) (h : words ≤ 8192) (hO : On w) :
    Calls Tryd.prog 43 #[.int .i64 words] w (BeginOk words w) := by
  have HO := Lib.hid hO
  clear hO
  have x8 : decide ((8192 : Int) < (words : Int)) = false := decide_eq_false (by omega)
  have x0 : ((words : Int) != (words : Int)) = false := by simp
  go_enter Tryd.func43, Tryd.ntmps43
  go_wp2_with fail
  refine (new_ok words w (by omega)).mono ?_
  rintro e w1 ⟨g, gb, rfl, hf1, hg, hgb, hM⟩
  have HM := Lib.hid hM
  have HF1 := Lib.hid hf1
  have HN := Lib.hid (And.intro hg hgb)
  clear hM hf1 hg hgb
  go_wp2_with fail
  refine (rnew_ok words w1 (by omega)).mono ?_
  rintro e w2 ⟨r, rb, rfl, hf2, hr, hrb, hR⟩
  have HR := Lib.hid hR
  have HM2 := Lib.hid (HM.out.fr hf2 (by simp) (by simp))
  have HF2 := Lib.hid (HF1.out.trans hf2 (by simp))
  have HN2 := Lib.hid (And.intro (Nat.le_trans HF1.out.size hr) (Nat.le_trans HF1.out.size hrb))
  clear hR hf2 hr hrb HM HF1
  go_wp2_with fail
  refine (num_any 0 w2).mono ?_
  rintro e w3 ⟨rfl, rfl⟩
  go_wp2_with fail
  refine (words_any g gb words _ w2 HM2.out).mono ?_
  rintro e w3 ⟨rfl, rfl⟩
  go_wp2_with fail
  refine (nextm_any g gb words _ 0 w2 (by omega) HM2.out).mono ?_
  rintro e w3 ⟨rfl, q, hw3⟩
  rw [nxtI_none]
  have hf3 : Fr [] w2 w3 := by rw [hw3]; exact (Fr.refl _ _).drewN _
  have HM3 := Lib.hid (HM2.out.fr hf3 (by simp) (by simp))
  have HR3 := Lib.hid (HR.out.fr hf3 (by simp) (by simp))
  have HF3 := Lib.hid (HF2.out.trans hf3 (by simp))
  clear hw3 hf3 HM2 HR HF2
  go_wp2_with fail
  go_ret2
  have hfa := (Fr.refl [] w3).alloc (.cells #[.pointer (some ⟨g, 0, none⟩), .pointer (some ⟨r, 0, none⟩), .slice none 0 0, .slice none 0 0] 81)
  exact ⟨w3.heap.size, g, gb, r, rb, rfl, Bk.new _ _ _, HM3.out.fr hfa (by simp) (by simp), HR3.out.fr hfa (by simp) (by simp), HO.out.fr (HF3.out.trans hfa (by simp)) (by simp), Lst.nil _ _ _ _, Lst.nil _ _ _ _, by simp, by simp, HF3.out.trans hfa (by simp), HF3.out.size, HN2.out.1, HN.out.2, HN2.out.2, h, HO.out.lt⟩

set_option maxRecDepth 100000 in
set_option maxHeartbeats 1600000 in
theorem begin_great (words : Nat) (w : World) (h : 8192 < words) (h2 : words ≤ 1048576) (hO : On w) :
    Calls Tryd.prog 43 #[.int .i64 words] w fun e w' => e = .returned (.tuple #[.pointer none, .bool true]) ∧ Fr [] w w' := by
  have HO := Lib.hid hO
  clear hO
  have x8 : decide ((8192 : Int) < (words : Int)) = true := decide_eq_true (by omega)
  have x0 : ((words : Int) != (words : Int)) = false := by simp
  have x1 : ((words : Int) - 1 == (words : Int) - 1) = true := by simp
  go_enter Tryd.func43, Tryd.ntmps43
  go_wp2_with fail
  refine (new_ok words w (by omega)).mono ?_
  rintro e w1 ⟨g, gb, rfl, hf1, hg, hgb, hM⟩
  have HM := Lib.hid hM
  have HF1 := Lib.hid hf1
  have HN := Lib.hid (And.intro hg hgb)
  clear hM hf1 hg hgb
  go_wp2_with fail
  refine (rnew_ok words w1 (by omega)).mono ?_
  rintro e w2 ⟨r, rb, rfl, hf2, hr, hrb, hR⟩
  have HM2 := Lib.hid (HM.out.fr hf2 (by simp) (by simp))
  have HF2 := Lib.hid (HF1.out.trans hf2 (by simp))
  clear hR hf2 hr hrb HM HF1
  go_wp2_with fail
  refine (num_any 0 w2).mono ?_
  rintro e w3 ⟨rfl, rfl⟩
  go_wp2_with fail
  refine (words_any g gb words _ w2 HM2.out).mono ?_
  rintro e w3 ⟨rfl, rfl⟩
  go_wp2_with fail
  refine (nextm_any g gb words _ 0 w2 (by omega) HM2.out).mono ?_
  rintro e w3 ⟨rfl, q, hw3⟩
  rw [nxtI_none]
  have hf3 : Fr [] w2 w3 := by rw [hw3]; exact (Fr.refl _ _).drewN _
  have HM3 := Lib.hid (HM2.out.fr hf3 (by simp) (by simp))
  have HF3 := Lib.hid (HF2.out.trans hf3 (by simp))
  clear hw3 hf3 HM2 HF2
  go_wp2_with fail
  refine (set_any g gb words _ ((words : Int) - 1) 1 w3 (by omega) (by omega) HM3.out (HO.out.fr HF3.out (by simp))).mono ?_
  rintro e w4 ⟨rfl, hM4, hf4⟩
  rw [(last_set (show 0 < words by omega)).1, (last_set (show 0 < words by omega)).2]
  have HM4 : Hid (MapIs w4 g gb words (lastF words)) := hM4
  have HF4 := Lib.hid (HF3.out.trans hf4 (fun x hx => .inr (by have : x = gb := (by simpa using hx); subst this; exact HN.out.2)))
  clear hM4 hf4 HM3 HF3
  go_wp2_with fail
  refine (num_any 0 w4).mono ?_
  rintro e w5 ⟨rfl, rfl⟩
  go_wp2_with fail
  refine (nextm_any g gb words _ 0 w4 (by omega) HM4.out).mono ?_
  rintro e w5 ⟨rfl, q5, hw5⟩
  rw [last_next (show 0 < words by omega)]
  have hf5 : Fr [] w4 w5 := by rw [hw5]; exact (Fr.refl _ _).drewN _
  have HM5 := Lib.hid (HM4.out.fr hf5 (by simp) (by simp))
  have HF5 := Lib.hid (HF4.out.trans hf5 (by simp))
  clear hw5 hf5 HM4 HF4
  go_wp2_with fail
  refine (countm_any g gb words _ 0 words w5 HM5.out (HO.out.fr HF5.out (by simp))).mono ?_
  rintro e w6 ⟨rfl, q6, hw6⟩
  rw [last_count (show 0 < words by omega)]
  have HF6 : Hid (Fr [] w w6) := by rw [hw6]; exact HF5.out.drewN _
  clear hw6
  go_wp2_with fail
  go_ret2
  exact ⟨rfl, HF6.out⟩

/-! ### play -/
def RdO (w : World) (A : Option Addr) (l : List Oq) : Prop :=
  l.length ≤ 9223372036854775807 ∧ (∀ o ∈ l, o.wf) ∧ (0 < l.length → ∃ b o, A = some ⟨b, o, none⟩ ∧ b < w.heap.size ∧ ∀ (k : Nat) (v : Oq), l[k]? = some v →
    w.cell? ⟨b, o + k * 4, none⟩ = some (.int .i64 v.k) ∧ w.cell? ⟨b, o + k * 4 + 1, none⟩ = some (.int .i64 v.a) ∧ w.cell? ⟨b, o + k * 4 + 2, none⟩ = some (.int .i64 v.b) ∧ w.cell? ⟨b, o + k * 4 + 3, none⟩ = some (.int .i64 v.c))
theorem RdO.fr {w w' : World} {A : Option Addr} {l : List Oq} (h : RdO w A l) (hf : Fr [] w w') : RdO w' A l :=
  ⟨h.1, h.2.1, fun hn => by
    obtain ⟨b, o, rfl, hb, hr⟩ := h.2.2 hn
    have e : ∀ x, w'.cell? ⟨b, x, none⟩ = w.cell? ⟨b, x, none⟩ := fun x => World.cell?_of_block (hf.block b hb (by simp))
    exact ⟨b, o, rfl, Nat.lt_of_lt_of_le hb hf.size, fun k v hv => by simp only [e]; exact hr k v hv⟩⟩

def PlayEnd (w : World) (e : Ending) (w' : World) : Prop := e = .returned (.bool true) ∧ Fr [] w w'

set_option maxRecDepth 100000 in
set_option maxHeartbeats 1600000 in
theorem play_any (words : Int) (A : Option Addr) (n cp : Nat) (l : List Oq) (low high : Int) (w : World) (hn : n = l.length) (hr : RdO w A l) (hO : On w) :
    Calls Tryd.prog 30 #[.int .i64 words, .slice A n cp, .int .i64 low, .int .i64 high] w (PlayEnd w) := by
  subst hn
  have hll := hr.1
  have HR := Lib.hid hr
  have HO := Lib.hid hO
  clear hr hO
  go_enter Tryd.func30, Tryd.ntmps30
  by_cases hw : 0 ≤ words ∧ words ≤ 8192
  · obtain ⟨words, rfl⟩ := Int.eq_ofNat_of_zero_le hw.1
    have hw8 : words ≤ 8192 := by omega
    go_wp2_with fail
    refine (begin_desk words w hw8 HO.out).mono ?_
    rintro e w1 ⟨d, g, gb, r, rb, rfl, hD⟩
    have HD := Lib.hid hD
    clear hD
    go_upto_region 5 with fail
    go_loopw [11] (fun i wr => ∃ k : Nat, k ≤ 300 ∧ k ≤ l.length ∧ i = .int .i64 k ∧ Hid (∃ rb F sv tv K, Dk w wr d g gb r rb words F sv tv K)) (fun i _ => 300 - (intOf i).toNat)
    case atStart => exact ⟨0, by omega, by omega, rfl, rb, _, _, _, _, HD.out⟩
    case round =>
      obtain ⟨k, hk, hkl, rfl, hx⟩ := hrel
      obtain ⟨rb1, F, sv, tv, K, hD⟩ := hx.out
      have HDK := Lib.hid hD
      clear hx hD
      go_upto_region 5 with fail
      go_cut [32] (fun v wx => v = .bool (decide (k < l.length ∧ k < 300)) ∧ wr = wx)
      case first =>
        go_wp2_with fail
        all_goals
          go_meet
          case rel => exact ⟨congrArg Value.bool (by first | exact decide_eq_decide.2 (by omega) | exact (decide_eq_false (by omega)).symm), rfl⟩
      obtain ⟨rfl, rfl⟩ := hcut
      by_cases hlt : k < l.length ∧ k < 300
      · rw [decide_eq_true hlt]
        obtain ⟨h1, h2⟩ := hlt
        obtain ⟨o, ho⟩ : ∃ o, l[k]? = some o := ⟨_, List.getElem?_eq_getElem h1⟩
        have hwf := HR.out.2.1 o (List.mem_of_getElem? ho)
        obtain ⟨bb, oo, hA, hbb, hc⟩ := (HR.out.fr HDK.out.F0).2.2 (by omega)
        subst hA
        obtain ⟨e0, e1, e2, e3⟩ := hc k o ho
        have hpl := plays_any d g gb r rb1 words F sv tv K o w wr HDK.out hwf
        obtain ⟨k0, a0, b0, c0⟩ := o
        have HPL := Lib.hid hpl
        have i0 : (0 : Int) ≤ (k : Int) := by omega
        have i1 : (k : Int) < (l.length : Int) := by omega
        clear hc hwf ho hpl
        go_wp2_with fail
        refine (Calls.mono HPL.out ?_)
        rintro e w3 ⟨rfl, hx⟩
        have HX := Lib.hid hx
        clear hx e0 e1 e2 e3
        go_wp2_with fail
        go_roundw
        case rel => exact ⟨k + 1, by omega, by omega, by go_num, HX.out⟩
        case measure => simp [intOf]; omega
      · rw [decide_eq_false hlt]
        go_wp2_with fail
        go_ret
        exact ⟨rfl, HDK.out.F0⟩
  · by_cases hg : 0 ≤ words ∧ words ≤ 1048576
    · obtain ⟨words, rfl⟩ := Int.eq_ofNat_of_zero_le hg.1
      go_wp2_with fail
      refine (begin_great words w (by omega) (by omega) HO.out).mono ?_
      rintro e w1 ⟨rfl, hf⟩
      go_wp2_with fail
      go_ret
      exact ⟨rfl, hf⟩
    · go_wp2_with fail
      refine (begin_bad words w (by omega)).mono ?_
      rintro e w1 ⟨rfl, hf⟩
      go_wp2_with fail
      go_ret
      exact ⟨rfl, hf⟩
end Go.Proofs.YtheiacfdbhjbmaaDoor
