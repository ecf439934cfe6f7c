/-
  Marks: how many are marked ahead of a place; the next marked place.
-/
import Derived.Test.YtheiacfdbhjbmaaDoorMk1
namespace Go.Proofs.YtheiacfdbhjbmaaDoor
open Go.RowKit Mk
set_option linter.unusedVariables false

theorem qadd {P : Program} {f : FuncId} {args : Array Value} {w : World} {a n : Nat} {v : Value}
    (h : Calls P f args (w.drewN (a + n)) fun e w' => e = .returned v ∧ w.drewN (a + n) = w') :
    Calls P f args (w.drewN (a + n)) fun e w'' => e = .returned v ∧ ∃ m, w'' = w.drewN (a + m) :=
  h.mono fun _ _ ⟨he, hm⟩ => ⟨he, n, hm.symm⟩
theorem qleft {P : Program} {f : FuncId} {args : Array Value} {w : World} {n : Nat} {v : Value}
    (h : Calls P f args (w.drewN n) fun e w' => e = .returned v ∧ w.drewN n = w') : Calls P f args (w.drewN n) fun e w'' => e = .returned v ∧ ∃ m, w'' = w.drewN m :=
  h.mono fun _ _ ⟨he, hm⟩ => ⟨he, n, hm.symm⟩
theorem On.drewN {w : World} (h : On w) (n : Nat) : On (w.drewN n) := ⟨h.lt, h.at_⟩
theorem Ws.drewN {w : World} {b m : Nat} {f : Nat → Bool} (h : Ws w b m f) (n : Nat) : Ws (w.drewN n) b m f := ⟨h.lt, h.wd⟩
theorem On.drew {w : World} (h : On w) : On w.drew := ⟨h.lt, h.at_⟩

set_option maxHeartbeats 1600000 in
theorem ahead_any (b m cap at_ : Nat) (f : Nat → Bool) (w : World) (hm : m ≤ 65536) (hmc : m ≤ cap) (hcap : cap ≤ 9223372036854775807) (hat : at_ ≤ 64 * m) (h : Ws w b m f) (hO : On w) :
    Calls Tryd.prog 37 #[.slice (some ⟨b, 0, none⟩) m cap, .int .i64 at_] w fun e w' => e = .returned (.int .i64 (cnt f 0 at_)) ∧ ∃ n, w' = w.drewN n := by
  obtain ⟨i, hi⟩ : ∃ i, at_ / 64 = i := ⟨_, rfl⟩
  obtain ⟨s, hs⟩ : ∃ s, at_ % 64 = s := ⟨_, rfl⟩
  have him : i ≤ m := by omega
  have hs64 : s < 64 := by omega
  have e1 : (at_ : Int) / 64 = (i : Int) := by omega
  have e2 : (at_ : Int) % 64 = (s : Int) := by omega
  have i1 : (0 : Int) ≤ (at_ : Int) := by omega
  have i2 : (i : Int) ≤ (m : Int) := by omega
  have i3 : (0 : Int) ≤ (i : Int) := by omega
  have i4 : (s : Int) < 64 := by omega
  have i5 : (i : Int) ≤ (cap : Int) := by omega
  have hat' : at_ = 64 * i + s := by omega
  have HAT := Lib.hid hat'
  have HW := Lib.hid h
  have HO := Lib.hid hO
  clear hi hs hat' h hO
  go_enter Tryd.func37, Tryd.ntmps37
  go_wp2_with fail
  go_loop [13, 5] (fun q n => ∃ k : Nat, k ≤ i ∧ q = .int .i64 k ∧ n = .int .i64 (cnt f 0 (64 * k))) (fun q _ => i - (intOf q).toNat)
  case atStart => exact ⟨0, by omega, rfl, rfl⟩
  case round =>
    obtain ⟨k, hk, rfl, rfl⟩ := hrel
    have hcl := cnt_le f 0 (64 * k)
    by_cases hlt : k < i
    · obtain ⟨x, hx, hw⟩ := HW.out.wd k (by omega)
      have hxl := hw.lt
      have hp : cnt f 0 (64 * (k + 1)) = cnt f 0 (64 * k) + pop x := by
        rw [pop_word hw, show 64 * (k + 1) = 64 * k + 64 from by omega, cnt_add, Nat.zero_add]
      have HP := Lib.hid hp
      have hpl := pop_le x
      clear hw hp
      go_wp2_with fail
      refine (count_any x w hxl HO.out).mono ?_
      rintro e w' ⟨rfl, rfl⟩
      go_wp2_with fail
      go_round
      case rel => exact ⟨k + 1, by omega, by go_num, by rw [HP.out]; go_num⟩
      case measure => simp [intOf]; omega
    · obtain rfl : k = i := by omega
      by_cases hs0 : s = 0
      · subst hs0
        go_wp2_with fail
        go_ret
        exact ⟨by rw [HAT.out]; rfl, 0, rfl⟩
      · have hs1 : 0 < (s : Int) := by omega
        have hs2 : 0 < s := by omega
        obtain ⟨x, hx, hw⟩ := HW.out.wd k (by omega)
        have hxl := hw.lt
        have hpm := pop_mask hw (k := s) (by omega)
        obtain ⟨q, hq⟩ : ∃ q, 2 ^ s - 1 = q := ⟨_, rfl⟩
        have hql : q < 18446744073709551616 := by
          rw [← hq]
          have : 2 ^ s ≤ 2 ^ 64 := Nat.pow_le_pow_right (by omega) (by omega)
          omega
        obtain ⟨y, hy⟩ : ∃ y, x &&& q = y := ⟨_, rfl⟩
        have hyl : y < 18446744073709551616 := by
          rw [← hy]
          exact Nat.lt_of_le_of_lt Nat.and_le_left hxl
        have eand : bits .and .u64 (x : Int) (q : Int) = (y : Int) := by rw [u64_and_nat x q hxl hql, hy]
        rw [hq, hy] at hpm
        have hfin : cnt f 0 at_ = cnt f 0 (64 * k) + pop y := by rw [HAT.out, cnt_add, Nat.zero_add, hpm]
        have HFIN := Lib.hid hfin
        have HB : Hid (∀ n, Calls Tryd.prog 34 #[.int .i64 s] (w.drewN n) fun e w' => e = .returned (.int .u64 (q : Nat)) ∧ w.drewN n = w') := fun n => by
          have := below_any s (w.drewN n) (by omega)
          rw [hq] at this
          exact this
        have HC : Hid (∀ n, Calls Tryd.prog 35 #[.int .u64 y] (w.drewN n) fun e w' => e = .returned (.int .i64 (pop y)) ∧ w.drewN n = w') := fun n => count_any y _ hyl (HO.out.drewN n)
        have hpl := pop_le y
        generalize pop y = p at *
        clear hw hpm hq hy hfin hs0
        have sw : IntKind.i64.wrap ((cnt f 0 (64 * k) : Nat) + (p : Int)) = (cnt f 0 (64 * k) : Nat) + (p : Int) := IntWalk.i64_in _ (by omega)
        go_wp2_with fail
        go_quiet ((first | (go_at_call 34; exact qleft (HB.out _)) | (go_at_call 35; exact qleft (HC.out _))))
        clear sw
        go_wp2_with fail
        go_ret
        exact ⟨by rw [HFIN.out]; go_num, _, rfl⟩

/-- r is the first marked place from a on, or the size. -/
structure Nxt (f : Nat → Bool) (a size r : Nat) : Prop where
  is : r = size ∨ (a ≤ r ∧ r < size ∧ f r = true)
  none : ∀ j, a ≤ j → j < r → f j = false

set_option maxHeartbeats 1600000 in
theorem next_any (b m cap at_ size : Nat) (f : Nat → Bool) (w : World) (hm : m ≤ 65536) (hsz : size ≤ 64 * m) (hat : at_ ≤ 9223372036854775807) (hf : ∀ j, size ≤ j → f j = false) (h : Ws w b m f) :
    Calls Tryd.prog 40 #[.slice (some ⟨b, 0, none⟩) m cap, .int .i64 at_, .int .i64 size] w fun e w' => (∃ r : Nat, e = .returned (.int .i64 r) ∧ Nxt f at_ size r) ∧ w = w' := by
  have HW := Lib.hid h
  have HF := Lib.hid hf
  clear h hf
  go_enter Tryd.func40, Tryd.ntmps40
  go_wp2_with fail
  go_loop [1] (fun q => ∃ k : Nat, q = .int .i64 k ∧ at_ ≤ k ∧ (k ≤ 64 * m ∨ k = at_) ∧ Hid (∀ j, at_ ≤ j → j < k → f j = false)) (fun q => 64 * m - (intOf q).toNat)
  case atStart => exact ⟨at_, rfl, Nat.le_refl _, .inr rfl, fun j h1 h2 => by omega⟩
  case round =>
    obtain ⟨k, rfl, hk, hk2, hno⟩ := hrel
    by_cases hlt : k < size
    · obtain ⟨i, hi⟩ : ∃ i, k / 64 = i := ⟨_, rfl⟩
      obtain ⟨s, hs⟩ : ∃ s, k % 64 = s := ⟨_, rfl⟩
      have him : i < m := by omega
      have hs64 : s < 64 := by omega
      have e1 : (k : Int) / 64 = (i : Int) := by omega
      have e2 : (k : Int) % 64 = (s : Int) := by omega
      have i1 : (0 : Int) ≤ (k : Int) := by omega
      have i2 : (i : Int) < (m : Int) := by omega
      have i3 : (0 : Int) ≤ (i : Int) := by omega
      have i4 : (s : Int) < 64 := by omega
      have hkk : k = 64 * i + s := by omega
      have HKK := Lib.hid hkk
      have hklt : (k : Int) < (size : Int) := by omega
      obtain ⟨x, hx, hw⟩ := HW.out.wd i him
      clear hi hs hkk
      by_cases h0 : x / 2 ^ s = 0
      · have hz := shr_zero hw h0
        have hq : ((x : Int) / 2 ^ s == 0) = true := by
          have : (x : Int) / 2 ^ s = ((x / 2 ^ s : Nat) : Int) := by simp
          rw [this, h0]
          rfl
        have HZ := Lib.hid hz
        clear hz h0 hw
        go_wp2_with fail
        go_round
        case rel => exact ⟨k + (64 - s), by go_num, by omega, .inl (by have := HKK.out; omega), fun j h1 h2 => by
          by_cases hj : j < k
          · exact hno.out j h1 hj
          · have := HKK.out
            have := HZ.out (j - 64 * i) (by omega) (by omega)
            rwa [show 64 * i + (j - 64 * i) = j from by omega] at this⟩
        case measure => simp [intOf]; have := HKK.out; omega
      · have hq : ((x : Int) / 2 ^ s == 0) = false := by
          have : (x : Int) / 2 ^ s = ((x / 2 ^ s : Nat) : Int) := by simp
          rw [this]
          exact beq_eq_false_iff_ne.2 (by exact_mod_cast h0)
        obtain ⟨j0, hj1, hj2, hj3⟩ := shr_some hw h0
        obtain ⟨p, hp⟩ : ∃ p, 64 * i + j0 = p := ⟨_, rfl⟩
        rw [hp] at hj3
        have hpk : k ≤ p := by have := HKK.out; omega
        have hpm : p < 64 * m := by omega
        have HP := Lib.hid hj3
        clear h0 hw hp hj3
        go_wp2_with fail
        go_loop [1] (fun q => ∃ k' : Nat, q = .int .i64 k' ∧ k ≤ k' ∧ k' ≤ p ∧ Hid (∀ j, k ≤ j → j < k' → f j = false)) (fun q => p - (intOf q).toNat)
        case atStart => exact ⟨k, rfl, Nat.le_refl _, hpk, fun j h1 h2 => by omega⟩
        case round =>
          obtain ⟨k', rfl, hk', hk'p, hno'⟩ := hrel
          have HF' : Hid (f k' = true → k' < size) := fun ht => by
            rcases Nat.lt_or_ge k' size with h | h
            · exact h
            · rw [HF.out k' h] at ht; cases ht
          clear hq e1 e2 hx i1 i2 i3 i4
          go_wp2_with fail
          refine (has_any b m cap k' f w hm (by omega) HW.out).mono ?_
          rintro e w' ⟨rfl, rfl⟩
          rcases Bool.eq_false_or_eq_true (f k') with hfk | hfk
          · have HK := Lib.hid hfk
            rw [hfk]
            clear hfk
            go_wp2_with fail
            go_ret
            exact ⟨⟨k', rfl, .inr ⟨by omega, HF'.out HK.out, HK.out⟩, fun j h1 h2 => by
              by_cases hj : j < k
              · exact hno.out j h1 hj
              · exact hno'.out j (by omega) h2⟩, rfl⟩
          · have HK := Lib.hid hfk
            rw [hfk]
            clear hfk
            have hne : k' < p := by
              rcases Nat.lt_or_ge k' p with h | h
              · exact h
              · have : k' = p := by omega
                subst this
                rw [HP.out] at HK
                cases HK.out
            go_wp2_with fail
            go_round
            case rel => exact ⟨k' + 1, by go_num, by omega, by omega, fun j h1 h2 => by
              by_cases hj : j < k'
              · exact hno'.out j h1 hj
              · rw [show j = k' from by omega]; exact HK.out⟩
            case measure => simp [intOf]; omega
    · have hklt : ¬ ((k : Int) < (size : Int)) := by omega
      go_wp2_with fail
      go_ret
      exact ⟨⟨size, rfl, .inl rfl, fun j h1 h2 => hno.out j h1 (by omega)⟩, rfl⟩
end Go.Proofs.YtheiacfdbhjbmaaDoor
