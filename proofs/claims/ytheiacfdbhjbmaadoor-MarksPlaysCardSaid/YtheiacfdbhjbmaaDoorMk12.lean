/-
  Marks: the search in the sums; Back.
-/
import Derived.Test.YtheiacfdbhjbmaaDoorMk8
namespace Go.Proofs.YtheiacfdbhjbmaaDoor
open Go.RowKit Mk
set_option linter.unusedVariables false

theorem isnan_any (x : Int) (w : World) : Calls Tryd.prog 56 #[.int .i64 x] w fun e w' => e = .returned (.bool false) ∧ w = w' := by
  have h : (x != x) = false := by simp
  go_enter Tryd.func56, Tryd.ntmps56
  go_wp2_with fail
  go_ret
  first | exact ⟨rfl, rfl⟩ | exact ⟨by simp, rfl⟩
theorem sisnan_any (x : Int) (w : World) : Calls Tryd.prog 47 #[.int .i64 x] w fun e w' => e = .returned (.bool false) ∧ w = w' := by
  have h : (x != x) = false := by simp
  go_enter Tryd.func47, Tryd.ntmps47
  go_wp2_with fail
  go_ret
  first | exact ⟨rfl, rfl⟩ | exact ⟨by simp, rfl⟩
theorem less_any (x y : Int) (w : World) : Calls Tryd.prog 46 #[.int .i64 x, .int .i64 y] w fun e w' => e = .returned (.bool (decide (x < y))) ∧ w = w' := by
  go_enter Tryd.func46, Tryd.ntmps46
  go_wp2_with fail
  refine (isnan_any x w).mono ?_
  rintro e w1 ⟨rfl, rfl⟩
  go_wp2_with fail
  go_ret
  exact ⟨rfl, rfl⟩

def BsOk (n : Nat) (s : Nat → Nat) (x : Int) (w : World) (e : Ending) (w' : World) : Prop :=
  ∃ (i : Nat) (f : Bool), e = .returned (.tuple #[.int .i64 i, .bool f]) ∧ i ≤ n ∧ (∀ t, t < i → (s t : Int) < x) ∧ (∀ t, i ≤ t → t < n → x ≤ s t) ∧ w = w'

set_option maxHeartbeats 1600000 in
theorem bsearch_any (b off n c : Nat) (s : Nat → Nat) (x : Int) (w : World) (hn : n ≤ 65536) (hc : ∀ j, j < n → w.cell? ⟨b, off + j, none⟩ = some (.int .i64 (s j : Nat))) (hs : ∀ i j, i ≤ j → j < n → s i ≤ s j) :
    Calls Tryd.prog 42 #[.slice (some ⟨b, off, none⟩) n c, .int .i64 x] w (BsOk n s x w) := by
  have HC := Lib.hid hc
  have HS := Lib.hid hs
  clear hc hs
  go_enter Tryd.func42, Tryd.ntmps42
  go_wp2_with fail
  go_loop [7, 8] (fun u v => ∃ lo hi : Nat, u = .int .i64 lo ∧ v = .int .i64 hi ∧ lo ≤ hi ∧ hi ≤ n ∧ Hid (∀ t, t < lo → (s t : Int) < x) ∧ Hid (∀ t, hi ≤ t → t < n → x ≤ s t)) (fun u v => (intOf v - intOf u).toNat)
  case atStart => exact ⟨0, n, rfl, rfl, Nat.zero_le _, Nat.le_refl _, fun t ht => absurd ht (Nat.not_lt_zero _), fun t h1 h2 => by omega⟩
  case round =>
    obtain ⟨lo, hi, rfl, rfl, hlh, hin, H1, H2⟩ := hrel
    by_cases hlt : lo < hi
    · have hm1 : (lo + hi) / 2 < n := by omega
      have cm := HC.out ((lo + hi) / 2) hm1
      obtain ⟨y, hy⟩ : ∃ y, s ((lo + hi) / 2) = y := ⟨_, rfl⟩
      rw [hy] at cm
      have HY := Lib.hid hy
      have hlt' : (lo : Int) < (hi : Int) := by omega
      clear hy
      by_cases hyx : (y : Int) < x
      · have d := decide_eq_true hyx
        go_wp2_with (go_at_call 46; refine (less_any _ _ _).mono ?_; rintro e w' ⟨rfl, rfl⟩)
        go_round
        case rel =>
          refine ⟨(lo + hi) / 2 + 1, hi, by rw [show ((lo : Int) + (hi : Int)) / 2 + 1 = (((lo + hi) / 2 + 1 : Nat) : Int) by omega], rfl, by omega, hin, ?_, H2⟩
          show ∀ t, t < (lo + hi) / 2 + 1 → (s t : Int) < x
          intro t ht
          have := HS.out t ((lo + hi) / 2) (by omega) (by omega)
          rw [HY.out] at this
          omega
        case measure => simp [intOf]; omega
      · have d := decide_eq_false hyx
        go_wp2_with (go_at_call 46; refine (less_any _ _ _).mono ?_; rintro e w' ⟨rfl, rfl⟩)
        go_round
        case rel =>
          refine ⟨lo, (lo + hi) / 2, rfl, by rw [show ((lo : Int) + (hi : Int)) / 2 = (((lo + hi) / 2 : Nat) : Int) by omega], by omega, by omega, H1, ?_⟩
          show ∀ t, (lo + hi) / 2 ≤ t → t < n → x ≤ s t
          intro t ht htn
          have := HS.out ((lo + hi) / 2) t (by omega) htn
          rw [HY.out] at this
          omega
        case measure => simp [intOf]; omega
    · have : hi = lo := by omega
      subst this
      by_cases hn2 : hi < n
      · have cl := HC.out hi hn2
        obtain ⟨y, hy⟩ : ∃ y, s hi = y := ⟨_, rfl⟩
        rw [hy] at cl
        clear hy
        by_cases hyx : (y : Int) = x
        · have d : ((y : Int) == x) = true := by simpa using hyx
          go_wp2_with (go_at_call 47; refine (sisnan_any _ _).mono ?_; rintro e w' ⟨rfl, rfl⟩)
          go_ret2
          exact ⟨hi, _, rfl, hin, H1.out, H2.out, rfl⟩
        · have d : ((y : Int) == x) = false := by simpa using hyx
          go_wp2_with (go_at_call 47; refine (sisnan_any _ _).mono ?_; rintro e w' ⟨rfl, rfl⟩)
          go_ret2
          exact ⟨hi, _, rfl, hin, H1.out, H2.out, rfl⟩
      · have hn3 : ¬ (hi : Int) < (n : Int) := by omega
        go_wp2_with fail
        go_ret2
        exact ⟨hi, _, rfl, hin, H1.out, H2.out, rfl⟩

theorem cnt_mono (f : Nat → Bool) {a b : Nat} (h : a ≤ b) : cnt f 0 a ≤ cnt f 0 b := by
  have := cnt_add f 0 a (b - a)
  rw [show a + (b - a) = b by omega] at this
  omega
theorem cnt_next (f : Nat → Bool) (a : Nat) : cnt f 0 (a + 1) = cnt f 0 a + (if f a then 1 else 0) := by
  show cnt f 0 a + (if f (0 + a) then 1 else 0) = _
  rw [Nat.zero_add]

theorem back_out (gs bs a b c m cap : Nat) (sv : Value) (f : Nat → Bool) (tt : Int) (w : World) (h : SlideIs w gs bs a b c m cap sv f) (hto : tt < c ∨ (c : Int) + (cnt f 0 (64 * m) : Nat) ≤ tt) (hl : -9223372036854775808 ≤ tt ∧ tt ≤ 9223372036854775807) :
    Calls Tryd.prog 29 #[.pointer (some ⟨gs, 0, none⟩), .int .i64 tt] w fun e w' => e = .returned (.tuple #[.int .i64 0, .bool false]) ∧ w = w' := by
  have c2 : w.cell? ⟨gs, 2, none⟩ = some (.int .i64 c) := h.B.cell 2
  have c5 : w.cell? ⟨gs, 5, none⟩ = some (.int .i64 (cnt f 0 (64 * m) : Nat)) := h.B.cell 5
  obtain ⟨T, hT⟩ : ∃ T, cnt f 0 (64 * m) = T := ⟨_, rfl⟩
  rw [hT] at hto c5
  have hc1 := h.c1
  clear h hT
  by_cases h1 : tt < (c : Int)
  · have d1 : decide (tt < (c : Int)) = true := decide_eq_true h1
    go_enter Tryd.func29, Tryd.ntmps29
    go_wp2_with fail
    go_ret2
    exact ⟨rfl, rfl⟩
  · have d1 : decide (tt < (c : Int)) = false := decide_eq_false h1
    have e1 : IntKind.i64.wrap (tt - (c : Int)) = tt - (c : Int) := IntWalk.i64_in _ (by omega)
    have d2 : decide ((T : Int) ≤ tt - (c : Int)) = true := decide_eq_true (by omega)
    go_enter Tryd.func29, Tryd.ntmps29
    go_wp2_with fail
    go_ret2
    exact ⟨rfl, rfl⟩

set_option maxHeartbeats 1000000 in
theorem back_in (gs bs a b c m cap : Nat) (sv : Value) (f : Nat → Bool) (p : Nat) (w : World) (h : SlideIs w gs bs a b c m cap sv f) (hp : f p = true) (hpm : p < 64 * m) :
    Calls Tryd.prog 29 #[.pointer (some ⟨gs, 0, none⟩), .int .i64 ((c : Int) + (cnt f 0 p : Nat))] w fun e w' => e = .returned (.tuple #[.int .i64 p, .bool true]) ∧ w = w' := by
  have c2 : w.cell? ⟨gs, 2, none⟩ = some (.int .i64 c) := h.B.cell 2
  have c3 : w.cell? ⟨gs, 3, none⟩ = some (.slice (some ⟨bs, 0, none⟩) m cap) := h.B.cell 3
  have c4 : w.cell? ⟨gs, 4, none⟩ = some sv := h.B.cell 4
  have c5 : w.cell? ⟨gs, 5, none⟩ = some (.int .i64 (cnt f 0 (64 * m) : Nat)) := h.B.cell 5
  obtain ⟨g3, o3, cap3, hv, _, _, _, _, _, _, hcell⟩ := (Lst.of_own h.S).form (by omega)
  subst hv
  obtain ⟨n, hn⟩ : ∃ n, cnt f 0 p = n := ⟨_, rfl⟩
  obtain ⟨T, hT⟩ : ∃ T, cnt f 0 (64 * m) = T := ⟨_, rfl⟩
  have hnT : n < T := by
    have h1 := cnt_next f p
    have h2 := cnt_mono f (show p + 1 ≤ 64 * m by omega)
    rw [hp] at h1
    simp at h1
    omega
  have hnp : n ≤ p := by rw [← hn]; exact cnt_le _ _ _
  have hTm : T ≤ 64 * m := by rw [← hT]; exact cnt_le _ _ _
  have hcs : ∀ j, j < m → w.cell? ⟨g3, o3 + j, none⟩ = some (.int .i64 (cnt f 0 (64 * j) : Nat)) := fun j hj => hcell j _ (by simp [sums, hj])
  have HB : Hid (∀ n' W, w = W → Calls Tryd.prog 42 #[.slice (some ⟨g3, o3, none⟩) m cap3, .int .i64 n'] W (BsOk m (fun j => cnt f 0 (64 * j)) n' W)) := fun n' W hW => by
    subst hW
    exact bsearch_any g3 o3 m cap3 (fun j => cnt f 0 (64 * j)) n' w (by have := h.m1; omega) hcs (fun i j hij hj => cnt_mono f (by omega))
  have HCS := Lib.hid hcs
  have HV := Lib.hid h.V
  have HN := Lib.hid hn
  have HP := Lib.hid hp
  have hm1 := h.m1
  have hc1 := h.c1
  rw [hT] at c5
  rw [hn]
  have d1 : decide ((c : Int) + (n : Int) < (c : Int)) = false := decide_eq_false (by omega)
  have e1 : IntKind.i64.wrap ((c : Int) + (n : Int) - (c : Int)) = (n : Int) := by rw [IntWalk.i64_in _ (by omega)]; omega
  have d2 : decide ((T : Int) ≤ (n : Int)) = false := decide_eq_false (by omega)
  have e2 : (c : Int) + (n : Int) - (c : Int) = (n : Int) := by omega
  clear h hcell hcs hp hn hT
  go_enter Tryd.func29, Tryd.ntmps29
  go_wp2_with fail
  refine (HB.out _ w rfl).mono ?_
  rintro e w1 ⟨i, fb, rfl, him, k1, k2, rfl⟩
  have hi0 : 0 < i := by
    rcases Nat.eq_zero_or_pos i with h0 | h0
    · have := k2 0 (by omega) (by omega)
      simp [cnt] at this
      omega
    · exact h0
  obtain ⟨k, rfl⟩ : ∃ k, i = k + 1 := ⟨i - 1, by omega⟩
  have hk1 := k1 k (by omega)
  have ck := HCS.out k (by omega)
  obtain ⟨q, hq⟩ : ∃ q, cnt f 0 (64 * k) = q := ⟨_, rfl⟩
  have hqn : q ≤ n := by
    have := hk1
    simp only [hq] at this
    omega
  rw [hq] at ck
  have hkp : 64 * k ≤ p := by
    rcases Nat.lt_or_ge p (64 * k) with h0 | h0
    · have h1 := cnt_next f p
      have h2 := cnt_mono f (show p + 1 ≤ 64 * k by omega)
      rw [HP.out, HN.out] at h1
      simp at h1
      omega
    · exact h0
  have HQ := Lib.hid hq
  have e3 : ((k + 1 : Nat) : Int) - 1 = (k : Int) := by omega
  have e4 : (n : Int) - (q : Int) = ((n - q : Nat) : Int) := by omega
  have i0 : (0 : Int) ≤ (k : Int) := by omega
  have i1 : (k : Int) < (m : Int) := by omega
  clear k1 k2 hk1 hq hi0
  go_upto_region 8 with fail
  go_loop [9, 10] (fun u v => ∃ x y : Nat, u = .int .i64 x ∧ v = .int .i64 y ∧ y ≤ p ∧ x ≤ 1048576 ∧ Hid (x + cnt f 0 y = n)) (fun _ v => (p + 1 - (intOf v).toNat))
  case atStart =>
    refine ⟨n - q, 64 * k, by go_num, by go_num, hkp, by omega, ?_⟩
    show n - q + cnt f 0 (64 * k) = n
    rw [HQ.out]
    omega
  case round =>
    obtain ⟨x, y, rfl, rfl, hyp, hx, hs⟩ := hrel
    have HS := Lib.hid hs.out
    have hnx := cnt_next f y
    have HNX := Lib.hid hnx
    clear hs hnx
    have hy64 : y < 64 * m := by omega
    obtain ⟨fy, hfy⟩ : ∃ fy, f y = fy := ⟨_, rfl⟩
    have HFY := Lib.hid hfy
    have HH := has_any bs m cap y f w (by omega) hy64 HV.out
    rw [hfy] at HH
    have HHH := Lib.hid HH
    clear HH hfy
    cases fy with
    | false =>
      have hyp2 : y < p := by
        rcases Nat.lt_or_ge y p with h0 | h0
        · exact h0
        · have : y = p := by omega
          rw [this, HP.out] at HFY
          exact absurd HFY.out (by simp)
      go_wp2_with fail
      refine (Calls.mono HHH.out ?_)
      rintro e w2 ⟨rfl, rfl⟩
      go_wp2_with fail
      go_round
      case rel =>
        refine ⟨x, y + 1, rfl, by go_num, by omega, hx, ?_⟩
        show x + cnt f 0 (y + 1) = n
        have h1 := HNX.out
        rw [HFY.out] at h1
        have := HS.out
        simp at h1
        omega
      case measure => simp [intOf]; omega
    | true =>
      by_cases hx0 : x = 0
      · have hx1 : ((x : Int) == 0) = true := by simp [hx0]
        have hyp2 : Hid (y = p) := by
          show y = p
          rcases Nat.lt_or_ge y p with h0 | h0
          · have h1 := HNX.out
            rw [HFY.out] at h1
            have h2 := cnt_mono f (show y + 1 ≤ p by omega)
            have := HS.out
            rw [HN.out] at h2
            simp at h1
            omega
          · omega
        clear hx0
        go_wp2_with fail
        refine (Calls.mono HHH.out ?_)
        rintro e w2 ⟨rfl, rfl⟩
        go_wp2_with fail
        go_ret2
        exact ⟨by have h := hyp2.out; subst h; rfl, rfl⟩
      · have hx1 : ((x : Int) == 0) = false := by simpa using hx0
        have hyp2 : y < p := by
          rcases Nat.lt_or_ge y p with h0 | h0
          · exact h0
          · have : y = p := by omega
            have h1 := HS.out
            rw [this, HN.out] at h1
            omega
        go_wp2_with fail
        refine (Calls.mono HHH.out ?_)
        rintro e w2 ⟨rfl, rfl⟩
        go_wp2_with fail
        go_round
        case rel =>
          refine ⟨x - 1, y + 1, by rw [show ((x : Int) - 1) = ((x - 1 : Nat) : Int) from by omega], by go_num, by omega, by omega, ?_⟩
          show x - 1 + cnt f 0 (y + 1) = n
          have h1 := HNX.out
          rw [HFY.out] at h1
          have := HS.out
          simp at h1
          omega
        case measure => simp [intOf]; omega
end Go.Proofs.YtheiacfdbhjbmaaDoor
