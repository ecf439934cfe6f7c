/-
  Marks: the statements' own filled and known.
-/
import Derived.Test.YtheiacfdbhjbmaaDoorMk8
namespace Go.Proofs.YtheiacfdbhjbmaaDoor
open Go.RowKit Mk
set_option linter.unusedVariables false

theorem num_any (n : Int) (w : World) : Calls Tryd.prog 15 #[.int .i64 n] w fun e w' => e = .returned (.int .i64 n) ∧ w = w' := by
  go_enter Tryd.func15, Tryd.ntmps15
  go_wp2_with fail
  go_ret
  exact ⟨rfl, rfl⟩

def fits (size : Nat) (a n : Int) : Bool := decide (0 ≤ a) && (decide (0 ≤ n) && (decide (a ≤ size) && decide (n ≤ size - a)))
def setF (size : Nat) (f : Nat → Bool) (a n : Int) : Nat → Bool := if fits size a n then addF f a.toNat (a.toNat + n.toNat) else f
def setE (size : Nat) (a n : Int) : Int := if fits size a n then 0 else 41
def setB (size : Nat) (f : Nat → Bool) (a n : Int) : Bool := fits size a n && decide (cnt f a.toNat n.toNat = 0)

def SetAny (g gb size : Nat) (f : Nat → Bool) (a n : Int) (w : World) (e : Ending) (w' : World) : Prop :=
  e = .returned (.tuple #[.bool (setB size f a n), .int .i64 (setE size a n)]) ∧ MapIs w' g gb size (setF size f a n) ∧ Fr [gb] w w'

theorem set_any (g gb size : Nat) (f : Nat → Bool) (a n : Int) (w : World) (ha : a ≤ 9223372036854775807) (hn : n ≤ 9223372036854775807) (h : MapIs w g gb size f) (hO : On w) :
    Calls Tryd.prog 18 #[.pointer (some ⟨g, 0, none⟩), .int .i64 a, .int .i64 n] w (SetAny g gb size f a n w) := by
  by_cases hf : 0 ≤ a ∧ 0 ≤ n ∧ a ≤ size ∧ n ≤ size - a
  · obtain ⟨h1, h2, h3, h4⟩ := hf
    have hfit : fits size a n = true := by unfold fits; simp; omega
    obtain ⟨a, rfl⟩ := Int.eq_ofNat_of_zero_le h1
    obtain ⟨n, rfl⟩ := Int.eq_ofNat_of_zero_le h2
    refine (set_ok g gb size f a n w h hO (by omega)).mono ?_
    rintro e w' ⟨he, hm, hfr⟩
    refine ⟨?_, ?_, hfr⟩
    · rw [he]; simp [setB, setE, hfit]
    · unfold setF; rw [hfit]; exact hm
  · have hfit : fits size a n = false := by
      rw [Bool.eq_false_iff]
      intro h
      apply hf
      unfold fits at h
      simpa using h
    refine (set_refused g gb size f a n w hn ha h hf).mono ?_
    rintro e w' ⟨he, rfl⟩
    refine ⟨?_, ?_, Fr.refl _ _⟩
    · rw [he]; simp [setB, setE, hfit]
    · unfold setF; rw [hfit]; exact h

/-- The marks of the pieces, two numbers a piece. -/
def fillF (size : Nat) (l : List Int) : Nat → (Nat → Bool)
  | 0 => fun _ => false
  | k + 1 => setF size (fillF size l k) (l.getD (2 * k) 0) (l.getD (2 * k + 1) 0)
def pairsN (l : List Int) : Nat := min (l.length / 2) 300

theorem filled_none (words : Int) (A : Option Addr) (n c : Nat) (l : List Int) (w : World) (hw : ¬ (0 ≤ words ∧ words ≤ 8192)) :
    Calls Tryd.prog 13 #[.int .i64 words, .slice A n c] w fun e w' => e = .returned (.tuple #[.pointer none, .bool true]) ∧ Fr [] w w' := by
  go_enter Tryd.func13, Tryd.ntmps13
  go_upto_region 3 with fail
  all_goals first | (go_ret2; exact ⟨rfl, Fr.refl _ _⟩) | (exfalso; omega)

def FilledSome (words : Nat) (l : List Int) (w : World) (e : Ending) (w' : World) : Prop :=
  ∃ g gb, e = .returned (.tuple #[.pointer (some ⟨g, 0, none⟩), .bool true]) ∧ Fr [] w w' ∧ w.heap.size ≤ g ∧ w.heap.size ≤ gb ∧ MapIs w' g gb words (fillF words l (pairsN l))

set_option maxHeartbeats 1600000 in
theorem filled_some (words : Nat) (A : Option Addr) (n c : Nat) (l : List Int) (w : World) (hw : words ≤ 8192) (hn : n = l.length) (hr : RdI w A l) (hb : ∀ x ∈ l, x ≤ 9223372036854775807) (hO : On w) :
    Calls Tryd.prog 13 #[.int .i64 words, .slice A n c] w (FilledSome words l w) := by
  subst hn
  have hll := hr.1
  have HR := Lib.hid hr
  have HBD := Lib.hid hb
  have HO := Lib.hid hO
  clear hr hb hO
  go_enter Tryd.func13, Tryd.ntmps13
  go_wp2_with fail
  refine (new_ok words w (by omega)).mono ?_
  rintro e w1 ⟨g, gb, rfl, hfr, hg, hgb, hM⟩
  have HM := Lib.hid hM
  have HF := Lib.hid hfr
  have HG : Hid (w.heap.size ≤ g) := hg
  have HGB : Hid (w.heap.size ≤ gb) := hgb
  clear hM hfr hg hgb
  go_wp2_with fail
  refine (num_any 0 w1).mono ?_
  rintro e w2 ⟨rfl, rfl⟩
  go_wp2_with fail
  refine (words_any g gb words _ w1 HM.out).mono ?_
  rintro e w2 ⟨rfl, rfl⟩
  go_wp2_with fail
  go_loopw [8] (fun i wr => ∃ k j : Nat, k ≤ pairsN l ∧ Hid (j = 2 * k) ∧ j ≤ 600 ∧ i = .int .i64 j ∧ Hid (MapIs wr g gb words (fillF words l k) ∧ Fr [] w wr)) (fun i _ => 602 - (intOf i).toNat)
  case atStart => exact ⟨0, 0, Nat.zero_le _, rfl, by omega, rfl, HM.out, HF.out⟩
  case round =>
    obtain ⟨k, j, hk, hj, hj6, rfl, hx⟩ := hrel
    have HX := Lib.hid hx.out.1
    have HFX := Lib.hid hx.out.2
    clear hx HM HF
    by_cases hlt : k < pairsN l
    · have hpn : pairsN l ≤ 300 ∧ 2 * pairsN l ≤ l.length := by unfold pairsN; omega
      have HJ := Lib.hid hj.out
      have hj1 : j + 1 < l.length := by have := hj.out; omega
      have hj2 : j < 599 := by have := hj.out; omega
      have j1 : (j : Int) + 1 < (l.length : Int) := by omega
      have j0 : (0 : Int) ≤ (j : Int) := by omega
      have j3 : (j : Int) < 600 := by omega
      have j4 : (j : Int) < (l.length : Int) := by omega
      obtain ⟨bb, oo, rfl, hbb, hc⟩ := (HR.out.fr HFX.out (by simp)).2 (by omega)
      obtain ⟨x, hx⟩ : ∃ x, l[j]? = some x := ⟨_, List.getElem?_eq_getElem (by omega)⟩
      obtain ⟨y, hy⟩ : ∃ y, l[j + 1]? = some y := ⟨_, List.getElem?_eq_getElem (by omega)⟩
      have cx := hc j x hx
      have cy := hc (j + 1) y hy
      have hxb := HBD.out x (List.mem_of_getElem? hx)
      have hyb := HBD.out y (List.mem_of_getElem? hy)
      have HXE : Hid (l.getD j 0 = x) := by show l.getD j 0 = x; rw [List.getD_eq_getElem?_getD, hx]; rfl
      have HYE : Hid (l.getD (j + 1) 0 = y) := by show l.getD (j + 1) 0 = y; rw [List.getD_eq_getElem?_getD, hy]; rfl
      clear hc hx hy hj hk
      by_cases f1 : 0 ≤ x
      · by_cases f2 : 0 ≤ y
        · by_cases f3 : x ≤ words
          · by_cases f4 : y ≤ (words : Int) - x
            · have hE : setE words x y = 0 := by
                unfold setE fits
                rw [if_pos (by simp; omega)]
              go_wp2_with fail
              refine (set_any g gb words _ x y wr hxb hyb HX.out (HO.out.fr HFX.out (by simp))).mono ?_
              rintro e w3 ⟨rfl, hM3, hF3⟩
              rw [hE]
              have HM3 : Hid (MapIs w3 g gb words (fillF words l (k + 1))) := by
                show MapIs w3 g gb words (setF words (fillF words l k) (l.getD (2 * k) 0) (l.getD (2 * k + 1) 0))
                rw [← HJ.out, HXE.out, HYE.out]
                exact hM3
              have HF3 : Hid (Fr [] w w3) := HFX.out.trans hF3 (fun z hz => .inr (by have : z = gb := (by simpa using hz); subst this; exact HGB.out))
              clear hM3 hF3 hE cx cy
              go_wp2_with fail
              refine (num_any _ w3).mono ?_
              rintro e w4 ⟨rfl, rfl⟩
              go_wp2_with fail
              go_roundw
              case rel => exact ⟨k + 1, j + 2, by omega, by have := HJ.out; show j + 2 = 2 * (k + 1); omega, by omega, by go_num, HM3.out, HF3.out⟩
              case measure => simp [intOf]; omega
            · have hE : setE words x y = 41 := by
                unfold setE fits
                rw [if_neg (by simp; omega)]
              have d4 : decide (y ≤ (words : Int) - x) = false := by simpa using f4
              go_wp2_with fail
              refine (set_any g gb words _ x y wr hxb hyb HX.out (HO.out.fr HFX.out (by simp))).mono ?_
              rintro e w3 ⟨rfl, hM3, hF3⟩
              rw [hE]
              have HM3 : Hid (MapIs w3 g gb words (fillF words l (k + 1))) := by
                show MapIs w3 g gb words (setF words (fillF words l k) (l.getD (2 * k) 0) (l.getD (2 * k + 1) 0))
                rw [← HJ.out, HXE.out, HYE.out]
                exact hM3
              have HF3 : Hid (Fr [] w w3) := HFX.out.trans hF3 (fun z hz => .inr (by have : z = gb := (by simpa using hz); subst this; exact HGB.out))
              clear hM3 hF3 hE cx cy
              go_wp2_with fail
              refine (num_any _ w3).mono ?_
              rintro e w4 ⟨rfl, rfl⟩
              go_wp2_with fail
              go_roundw
              case rel => exact ⟨k + 1, j + 2, by omega, by have := HJ.out; show j + 2 = 2 * (k + 1); omega, by omega, by go_num, HM3.out, HF3.out⟩
              case measure => simp [intOf]; omega
          · have hE : setE words x y = 41 := by
              unfold setE fits
              rw [if_neg (by simp; omega)]
            have d3 : decide (x ≤ (words : Int)) = false := by simpa using f3
            go_wp2_with fail
            refine (set_any g gb words _ x y wr hxb hyb HX.out (HO.out.fr HFX.out (by simp))).mono ?_
            rintro e w3 ⟨rfl, hM3, hF3⟩
            rw [hE]
            have HM3 : Hid (MapIs w3 g gb words (fillF words l (k + 1))) := by
              show MapIs w3 g gb words (setF words (fillF words l k) (l.getD (2 * k) 0) (l.getD (2 * k + 1) 0))
              rw [← HJ.out, HXE.out, HYE.out]
              exact hM3
            have HF3 : Hid (Fr [] w w3) := HFX.out.trans hF3 (fun z hz => .inr (by have : z = gb := (by simpa using hz); subst this; exact HGB.out))
            clear hM3 hF3 hE cx cy
            go_wp2_with fail
            refine (num_any _ w3).mono ?_
            rintro e w4 ⟨rfl, rfl⟩
            go_wp2_with fail
            go_roundw
            case rel => exact ⟨k + 1, j + 2, by omega, by have := HJ.out; show j + 2 = 2 * (k + 1); omega, by omega, by go_num, HM3.out, HF3.out⟩
            case measure => simp [intOf]; omega
        · have hE : setE words x y = 41 := by
            unfold setE fits
            rw [if_neg (by simp; omega)]
          have d2 : decide (0 ≤ y) = false := by simpa using f2
          go_wp2_with fail
          refine (set_any g gb words _ x y wr hxb hyb HX.out (HO.out.fr HFX.out (by simp))).mono ?_
          rintro e w3 ⟨rfl, hM3, hF3⟩
          rw [hE]
          have HM3 : Hid (MapIs w3 g gb words (fillF words l (k + 1))) := by
            show MapIs w3 g gb words (setF words (fillF words l k) (l.getD (2 * k) 0) (l.getD (2 * k + 1) 0))
            rw [← HJ.out, HXE.out, HYE.out]
            exact hM3
          have HF3 : Hid (Fr [] w w3) := HFX.out.trans hF3 (fun z hz => .inr (by have : z = gb := (by simpa using hz); subst this; exact HGB.out))
          clear hM3 hF3 hE cx cy
          go_wp2_with fail
          refine (num_any _ w3).mono ?_
          rintro e w4 ⟨rfl, rfl⟩
          go_wp2_with fail
          go_roundw
          case rel => exact ⟨k + 1, j + 2, by omega, by have := HJ.out; show j + 2 = 2 * (k + 1); omega, by omega, by go_num, HM3.out, HF3.out⟩
          case measure => simp [intOf]; omega
      · have hE : setE words x y = 41 := by
          unfold setE fits
          rw [if_neg (by simp; omega)]
        have d1 : decide (0 ≤ x) = false := by simpa using f1
        go_wp2_with fail
        refine (set_any g gb words _ x y wr hxb hyb HX.out (HO.out.fr HFX.out (by simp))).mono ?_
        rintro e w3 ⟨rfl, hM3, hF3⟩
        rw [hE]
        have HM3 : Hid (MapIs w3 g gb words (fillF words l (k + 1))) := by
          show MapIs w3 g gb words (setF words (fillF words l k) (l.getD (2 * k) 0) (l.getD (2 * k + 1) 0))
          rw [← HJ.out, HXE.out, HYE.out]
          exact hM3
        have HF3 : Hid (Fr [] w w3) := HFX.out.trans hF3 (fun z hz => .inr (by have : z = gb := (by simpa using hz); subst this; exact HGB.out))
        clear hM3 hF3 hE cx cy
        go_wp2_with fail
        refine (num_any _ w3).mono ?_
        rintro e w4 ⟨rfl, rfl⟩
        go_wp2_with fail
        go_roundw
        case rel => exact ⟨k + 1, j + 2, by omega, by have := HJ.out; show j + 2 = 2 * (k + 1); omega, by omega, by go_num, HM3.out, HF3.out⟩
        case measure => simp [intOf]; omega
    · have hpk : k = pairsN l := by omega
      have HK := Lib.hid hpk
      have hj' := hj.out
      have hpn : pairsN l = 300 ∨ l.length ≤ 2 * pairsN l + 1 := by unfold pairsN; omega
      by_cases h6 : (j : Int) + 1 < (l.length : Int)
      · have d6 : decide ((j : Int) < 600) = false := by simp; omega
        clear hpk hj'
        go_wp2_with fail
        go_ret2
        exact ⟨g, gb, rfl, HFX.out, HG.out, HGB.out, by rw [← HK.out]; exact HX.out⟩
      · have d6 : decide ((j : Int) + 1 < (l.length : Int)) = false := by simpa using h6
        clear hpk hj'
        go_wp2_with fail
        go_ret2
        exact ⟨g, gb, rfl, HFX.out, HG.out, HGB.out, by rw [← HK.out]; exact HX.out⟩
end Go.Proofs.YtheiacfdbhjbmaaDoor
