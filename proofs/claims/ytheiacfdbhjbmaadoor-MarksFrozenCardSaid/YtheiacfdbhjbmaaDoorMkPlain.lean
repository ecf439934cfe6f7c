/-
  A bitmap in plain Lean: counting, numbers of 64 bits, masks.
-/
namespace Go.Proofs.YtheiacfdbhjbmaaDoor.Mk

/-- How many of n places from a on are marked. -/
def cnt (f : Nat → Bool) (a : Nat) : Nat → Nat
  | 0 => 0
  | n + 1 => cnt f a n + (if f (a + n) then 1 else 0)

theorem cnt_add (f : Nat → Bool) (a n m : Nat) : cnt f a (n + m) = cnt f a n + cnt f (a + n) m := by
  induction m with
  | zero => simp [cnt]
  | succ m ih => rw [← Nat.add_assoc]; simp only [cnt]; rw [ih, Nat.add_assoc a n m]; omega
theorem cnt_congr {f g : Nat → Bool} {a b : Nat} : ∀ {n : Nat}, (∀ i, i < n → f (a + i) = g (b + i)) → cnt f a n = cnt g b n
  | 0, _ => rfl
  | n + 1, h => by
    simp only [cnt]
    rw [cnt_congr (n := n) (fun i hi => h i (by omega)), h n (by omega)]
theorem cnt_le (f : Nat → Bool) (a : Nat) : ∀ n, cnt f a n ≤ n
  | 0 => Nat.le_refl _
  | n + 1 => by
    have := cnt_le f a n
    simp only [cnt]
    split <;> omega
theorem cnt_zero {f : Nat → Bool} {a : Nat} : ∀ {n : Nat}, (∀ i, i < n → f (a + i) = false) → cnt f a n = 0
  | 0, _ => rfl
  | n + 1, h => by simp [cnt, cnt_zero (n := n) (fun i hi => h i (by omega)), h n (by omega)]
theorem cnt_pos {f : Nat → Bool} {a n i : Nat} (hi : i < n) (h : f (a + i) = true) : 0 < cnt f a n := by
  induction n with
  | zero => omega
  | succ n ih =>
    simp only [cnt]
    by_cases hn : i = n
    · subst hn; rw [if_pos h]; omega
    · have := ih (by omega); omega
theorem cnt_eq_zero {f : Nat → Bool} {a n : Nat} (h : cnt f a n = 0) : ∀ i, i < n → f (a + i) = false := by
  intro i hi
  cases hf : f (a + i) with
  | false => rfl
  | true => have := cnt_pos hi hf; omega

/-- x is the i-th number of f: its 64 bits are f's from 64 i on. -/
structure Wd (f : Nat → Bool) (i x : Nat) : Prop where
  lt : x < 18446744073709551616
  bit : ∀ j, j < 64 → x.testBit j = f (64 * i + j)

def pop (x : Nat) : Nat := cnt (fun j => x.testBit j) 0 64

theorem testBit_ge {x j : Nat} (h : x < 18446744073709551616) (hj : 64 ≤ j) : x.testBit j = false := by
  apply Nat.testBit_lt_two_pow
  exact Nat.lt_of_lt_of_le (show x < 2 ^ 64 from h) (Nat.pow_le_pow_right (by omega) hj)
theorem testBit_ge' {x j k : Nat} (h : x < 2 ^ k) (hj : k ≤ j) : x.testBit j = false := by
  apply Nat.testBit_lt_two_pow
  exact Nat.lt_of_lt_of_le h (Nat.pow_le_pow_right (by omega) hj)

theorem pop_word {f : Nat → Bool} {i x : Nat} (h : Wd f i x) : pop x = cnt f (64 * i) 64 := by
  unfold pop
  exact cnt_congr (fun j hj => by rw [Nat.zero_add]; exact h.bit j hj)
theorem pop_mask {f : Nat → Bool} {i x k : Nat} (h : Wd f i x) (hk : k ≤ 64) : pop (x &&& (2 ^ k - 1)) = cnt f (64 * i) k := by
  have hm : pop (x &&& (2 ^ k - 1)) = cnt (fun j => (x &&& (2 ^ k - 1)).testBit j) 0 (k + (64 - k)) := by
    unfold pop
    rw [show k + (64 - k) = 64 from by omega]
  rw [hm, cnt_add, cnt_zero (n := 64 - k) (fun j hj => by rw [Nat.testBit_and, Nat.testBit_two_pow_sub_one, Nat.zero_add, decide_eq_false (by omega), Bool.and_false]), Nat.add_zero]
  exact cnt_congr (fun j hj => by
    rw [Nat.zero_add, Nat.testBit_and, Nat.testBit_two_pow_sub_one, h.bit j (by omega)]
    simp [hj])

/-- The table of the sixteen numbers. -/
def onesL : List Nat := [0, 1, 1, 2, 1, 2, 2, 3, 1, 2, 2, 3, 2, 3, 3, 4]
theorem ones_four : ∀ y, y < 16 → onesL.getD y 0 = cnt (fun j => y.testBit j) 0 4 := by decide
theorem pop_step {x : Nat} (h : x < 18446744073709551616) : pop x = onesL.getD (x % 16) 0 + pop (x / 16) := by
  have h1 : cnt (fun j => x.testBit j) 0 4 = onesL.getD (x % 16) 0 := by
    rw [ones_four _ (Nat.mod_lt _ (by omega))]
    exact cnt_congr (fun j hj => by
      rw [Nat.zero_add, show x % 16 = x % 2 ^ 4 from rfl, Nat.testBit_mod_two_pow]
      simp [hj])
  have h2 : cnt (fun j => x.testBit j) (0 + 4) 60 = cnt (fun j => (x / 16).testBit j) 0 60 :=
    cnt_congr (fun j hj => by
      rw [show x / 16 = x / 2 ^ 4 from rfl, Nat.testBit_div_two_pow]
      congr 1
      omega)
  have h3 : cnt (fun j => (x / 16).testBit j) (0 + 60) 4 = 0 := cnt_zero (fun j hj => testBit_ge' (k := 60) (by omega) (by omega))
  unfold pop
  rw [show (64 : Nat) = 4 + 60 from rfl, cnt_add, h1, h2, show (4 : Nat) + 60 = 60 + 4 from rfl, cnt_add, h3, Nat.add_zero]
theorem pop_zero : pop 0 = 0 := cnt_zero (fun j _ => by simp)
theorem pop_le (x : Nat) : pop x ≤ 64 := cnt_le _ _ _

/-- A bit set. -/
def upd (f : Nat → Bool) (at_ : Nat) : Nat → Bool := fun j => f j || decide (j = at_)
theorem wd_set {f : Nat → Bool} {i x s : Nat} (h : Wd f i x) (hs : s < 64) : Wd (upd f (64 * i + s)) i (x ||| 2 ^ s) := by
  refine ⟨?_, fun j hj => ?_⟩
  · exact Nat.or_lt_two_pow (n := 64) h.lt (Nat.pow_lt_pow_right (by omega) hs)
  · rw [Nat.testBit_or, h.bit j hj, Nat.testBit_two_pow]
    unfold upd
    congr 1
    apply decide_eq_decide.2
    omega
theorem wd_far {f : Nat → Bool} {i x at_ : Nat} (h : Wd f i x) (hs : at_ / 64 ≠ i) : Wd (upd f at_) i x := by
  refine ⟨h.lt, fun j hj => ?_⟩
  rw [h.bit j hj]
  unfold upd
  have : ¬ (64 * i + j = at_) := by omega
  simp [this]
theorem wd_none (i : Nat) : Wd (fun _ => false) i 0 := ⟨by omega, fun j _ => by simp⟩
/-- A piece of the bits. -/
def cutF (f : Nat → Bool) (a b : Nat) : Nat → Bool := fun j => f j && (decide (a ≤ j) && decide (j < b))
theorem wd_cut {f : Nat → Bool} {i x a b : Nat} (h : Wd f i x) :
    Wd (cutF f a b) i ((x &&& (18446744073709551615 - (2 ^ (min (a - 64 * i) 64) - 1))) &&& (2 ^ (min (b - 64 * i) 64) - 1)) := by
  refine ⟨?_, fun j hj => ?_⟩
  · exact Nat.and_lt_two_pow (n := 64) _ (Nat.lt_of_lt_of_le (Nat.sub_lt (Nat.two_pow_pos _) (by omega)) (Nat.pow_le_pow_right (by omega) (Nat.min_le_right _ _)))
  · have hn : (18446744073709551615 - (2 ^ (min (a - 64 * i) 64) - 1)).testBit j = !decide (j < min (a - 64 * i) 64) := by
      have hlt : 2 ^ (min (a - 64 * i) 64) - 1 < 2 ^ 64 := Nat.lt_of_lt_of_le (Nat.sub_lt (Nat.two_pow_pos _) (by omega)) (Nat.pow_le_pow_right (by omega) (Nat.min_le_right _ _))
      rw [show (18446744073709551615 : Nat) = 2 ^ 64 - 1 from rfl]
      have := Nat.testBit_two_pow_sub_succ (n := 64) hlt j
      rw [show 2 ^ 64 - 1 - (2 ^ (min (a - 64 * i) 64) - 1) = 2 ^ 64 - (2 ^ (min (a - 64 * i) 64) - 1 + 1) from by omega, this]
      simp [hj, Nat.testBit_two_pow_sub_one]
    rw [Nat.testBit_and, Nat.testBit_and, hn, Nat.testBit_two_pow_sub_one, h.bit j hj]
    unfold cutF
    have e1 : (!decide (j < min (a - 64 * i) 64)) = decide (a ≤ 64 * i + j) := by
      rw [← decide_not]
      apply decide_eq_decide.2
      omega
    have e2 : decide (j < min (b - 64 * i) 64) = decide (64 * i + j < b) := by
      apply decide_eq_decide.2
      omega
    rw [e1, e2, Bool.and_assoc]
/-- What stands above a place. -/
theorem shr_zero {f : Nat → Bool} {i x s : Nat} (h : Wd f i x) (h0 : x / 2 ^ s = 0) : ∀ j, s ≤ j → j < 64 → f (64 * i + j) = false := by
  intro j hs hj
  rw [← h.bit j hj]
  have hx : x < 2 ^ s := by
    rcases Nat.lt_or_ge x (2 ^ s) with h | h
    · exact h
    · have := Nat.div_pos h (Nat.two_pow_pos s); omega
  exact testBit_ge' hx hs
theorem shr_some {f : Nat → Bool} {i x s : Nat} (h : Wd f i x) (h0 : x / 2 ^ s ≠ 0) : ∃ j, s ≤ j ∧ j < 64 ∧ f (64 * i + j) = true := by
  apply Classical.byContradiction
  intro hn
  apply h0
  have hz : ∀ j, s ≤ j → x.testBit j = false := by
    intro j hj
    by_cases h64 : j < 64
    · rw [h.bit j h64]
      cases hf : f (64 * i + j) with
      | false => rfl
      | true => exact absurd ⟨j, hj, h64, hf⟩ hn
    · exact testBit_ge h.lt (by omega)
  apply Nat.eq_of_testBit_eq
  intro j
  rw [Nat.testBit_div_two_pow, hz _ (by omega)]
  simp
theorem bit_at {f : Nat → Bool} {i x s : Nat} (h : Wd f i x) (hs : s < 64) : x / 2 ^ s % 2 = if f (64 * i + s) then 1 else 0 := by
  rw [← h.bit s hs, Nat.testBit_eq_decide_div_mod_eq]
  have : x / 2 ^ s % 2 < 2 := Nat.mod_lt _ (by omega)
  by_cases h1 : x / 2 ^ s % 2 = 1
  · simp [h1]
  · have : x / 2 ^ s % 2 = 0 := by omega
    simp [this]
end Go.Proofs.YtheiacfdbhjbmaaDoor.Mk
