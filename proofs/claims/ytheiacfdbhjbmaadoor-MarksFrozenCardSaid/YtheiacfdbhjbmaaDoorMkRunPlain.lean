/-
  Marks in plain Lean: the first place marked (or not) from one on; where the runs begin.
-/
import Derived.Test.YtheiacfdbhjbmaaDoorMkPlain
namespace Go.Proofs.YtheiacfdbhjbmaaDoor.Mk

/-- The first of k places from a on with the mark; a + k: none. -/
def nx (f : Nat → Bool) : Nat → Nat → Nat
  | 0, a => a
  | k + 1, a => if f a then a else nx f k (a + 1)
theorem nx_spec (f : Nat → Bool) : ∀ k a, a ≤ nx f k a ∧ nx f k a ≤ a + k ∧ (∀ j, a ≤ j → j < nx f k a → f j = false) ∧ (nx f k a < a + k → f (nx f k a) = true)
  | 0, a => ⟨Nat.le_refl _, Nat.le_refl _, fun j h1 h2 => by simp only [nx] at h2; omega, fun h => by simp only [nx] at h; omega⟩
  | k + 1, a => by
    by_cases h : f a = true
    · have e : nx f (k + 1) a = a := by simp only [nx]; rw [if_pos h]
      rw [e]
      exact ⟨Nat.le_refl _, by omega, fun j h1 h2 => by omega, fun _ => h⟩
    · have e : nx f (k + 1) a = nx f k (a + 1) := by simp only [nx]; rw [if_neg h]
      obtain ⟨h1, h2, h3, h4⟩ := nx_spec f k (a + 1)
      rw [e]
      refine ⟨by omega, by omega, fun j hj1 hj2 => ?_, fun hl => h4 (by omega)⟩
      by_cases hja : j = a
      · subst hja; simpa using h
      · exact h3 j (by omega) hj2
theorem nx_eq {f : Nat → Bool} {k a r : Nat} (h1 : a ≤ r) (h2 : r ≤ a + k) (h3 : ∀ j, a ≤ j → j < r → f j = false) (h4 : r < a + k → f r = true) : r = nx f k a := by
  obtain ⟨k1, k2, k3, k4⟩ := nx_spec f k a
  rcases Nat.lt_trichotomy r (nx f k a) with h | h | h
  · have := k3 r h1 h
    rw [h4 (by omega)] at this
    cases this
  · exact h
  · have := h3 _ k1 h
    rw [k4 (by omega)] at this
    cases this
/-- The first word marked from a on (size: none); the first that is not. -/
def nextN (f : Nat → Bool) (size a : Nat) : Nat := nx f (size - a) a
def endN (f : Nat → Bool) (size a : Nat) : Nat := nx (fun j => !f j) (size - a) a
theorem nextN_spec (f : Nat → Bool) {size a : Nat} (h : a ≤ size) : a ≤ nextN f size a ∧ nextN f size a ≤ size ∧ (∀ j, a ≤ j → j < nextN f size a → f j = false) ∧ (nextN f size a < size → f (nextN f size a) = true) := by
  obtain ⟨h1, h2, h3, h4⟩ := nx_spec f (size - a) a
  exact ⟨h1, by unfold nextN; omega, h3, fun hl => h4 (by unfold nextN at hl; omega)⟩
theorem endN_spec (f : Nat → Bool) {size a : Nat} (h : a ≤ size) : a ≤ endN f size a ∧ endN f size a ≤ size ∧ (∀ j, a ≤ j → j < endN f size a → f j = true) ∧ (endN f size a < size → f (endN f size a) = false) := by
  obtain ⟨h1, h2, h3, h4⟩ := nx_spec (fun j => !f j) (size - a) a
  exact ⟨h1, by unfold endN; omega, fun j hj1 hj2 => by have := h3 j hj1 hj2; simpa using this, fun hl => by have := h4 (by unfold endN at hl; omega); show f (nx (fun j => !f j) (size - a) a) = false; simpa using this⟩
theorem endN_lt (f : Nat → Bool) {size a : Nat} (h : a < size) (hf : f a = true) : a < endN f size a := by
  obtain ⟨h1, h2, h3, h4⟩ := endN_spec f (Nat.le_of_lt h)
  rcases Nat.lt_or_ge a (endN f size a) with h5 | h5
  · exact h5
  · have e : endN f size a = a := by omega
    have := h4 (by omega)
    rw [e, hf] at this
    cases this

/-- Where runs begin, from a on (a is marked, or size). -/
def begF (f : Nat → Bool) (size : Nat) : Nat → Nat → List Nat
  | 0, _ => []
  | k + 1, a => if a < size then a :: begF f size k (nextN f size (endN f size a)) else []
theorem begF_step (f : Nat → Bool) (size : Nat) {k a : Nat} (h : a < size) : begF f size (k + 1) a = a :: begF f size k (nextN f size (endN f size a)) := by
  simp only [begF]
  rw [if_pos h]
theorem begF_end (f : Nat → Bool) (size : Nat) {k a : Nat} (h : size ≤ a) : begF f size k a = [] := by
  cases k with
  | zero => rfl
  | succ k => simp only [begF]; rw [if_neg (by omega)]
def begs (f : Nat → Bool) (size : Nat) : List Nat := begF f size (size + 1) (nextN f size 0)
theorem begF_length (f : Nat → Bool) (size : Nat) : ∀ k a, (begF f size k a).length ≤ k
  | 0, _ => Nat.le_refl _
  | k + 1, a => by
    simp only [begF]
    split
    · have := begF_length f size k (nextN f size (endN f size a))
      simp only [List.length_cons]
      omega
    · simp
/-- Each beginning is a marked word below the size. -/
theorem begF_mem (f : Nat → Bool) (size : Nat) : ∀ k a, a ≤ size → (a < size → f a = true) → ∀ x ∈ begF f size k a, a ≤ x ∧ x < size ∧ f x = true
  | 0, _, _, _, x, hx => by simp [begF] at hx
  | k + 1, a, ha, hf, x, hx => by
    by_cases h : a < size
    · rw [begF_step f size h] at hx
      rcases List.mem_cons.1 hx with rfl | hx
      · exact ⟨Nat.le_refl _, h, hf h⟩
      · obtain ⟨e1, e2, e3, e4⟩ := endN_spec f (Nat.le_of_lt h)
        obtain ⟨n1, n2, n3, n4⟩ := nextN_spec f e2
        obtain ⟨k1, k2, k3⟩ := begF_mem f size k _ n2 n4 x hx
        exact ⟨by omega, k2, k3⟩
    · rw [begF_end f size (by omega)] at hx
      cases hx
end Go.Proofs.YtheiacfdbhjbmaaDoor.Mk
