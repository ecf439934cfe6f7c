/-
  Plain numbers of the tenure chapter: the sum of the words of the ages from 1 on, how many ages are within what is wanted, the next threshold.
-/
namespace Go.Proofs.YtdcppdgnekhcgaaDoor.Ten

def sumTo (f : Nat → Int) : Nat → Int
  | 0 => 0
  | k + 1 => sumTo f k + f (k + 1)
def okW (f : Nat → Int) : Prop := ∀ k, k < 16 → 0 ≤ f k ∧ f k ≤ 65536
def within (f : Nat → Int) (wanted : Int) : Nat → Int
  | 0 => 0
  | k + 1 => within f wanted k + if sumTo f (k + 1) ≤ wanted then 1 else 0
def next (f : Nat → Int) (wanted : Int) (most : Nat) : Int := within f wanted (most - 1) + 1

theorem sumTo_bound {f : Nat → Int} (h : okW f) : ∀ k, k ≤ 15 → 0 ≤ sumTo f k ∧ sumTo f k ≤ 65536 * k := by
  intro k
  induction k with
  | zero => intro _; simp [sumTo]
  | succ k ih =>
    intro hk
    have h1 := ih (by omega)
    have h2 := h (k + 1) (by omega)
    simp only [sumTo]
    omega
theorem sumTo_succ {f : Nat → Int} (h : okW f) {k : Nat} (hk : k < 15) : sumTo f k ≤ sumTo f (k + 1) := by
  have h2 := h (k + 1) (by omega)
  simp only [sumTo]
  omega
theorem sumTo_mono {f : Nat → Int} (h : okW f) {j : Nat} : ∀ d, j + d ≤ 15 → sumTo f j ≤ sumTo f (j + d) := by
  intro d
  induction d with
  | zero => intro _; exact Int.le_refl _
  | succ d ih =>
    intro hd
    exact Int.le_trans (ih (by omega)) (sumTo_succ h (by omega))
theorem within_all {f : Nat → Int} {wanted : Int} (h : okW f) : ∀ k, k ≤ 15 → sumTo f k ≤ wanted → within f wanted k = k := by
  intro k
  induction k with
  | zero => intro _ _; simp [within]
  | succ k ih =>
    intro hk hs
    have h1 := sumTo_succ h (k := k) (by omega)
    rw [within, if_pos hs, ih (by omega) (by omega)]
    omega
theorem within_stop {f : Nat → Int} {wanted : Int} (h : okW f) {k : Nat} (hs : sumTo f k ≤ wanted) (hgt : wanted < sumTo f (k + 1)) : ∀ d, k + 1 + d ≤ 15 → within f wanted (k + d) = k := by
  intro d
  induction d with
  | zero => intro hd; exact within_all h k (by omega) hs
  | succ d ih =>
    intro hd
    have h1 := sumTo_mono h (j := k + 1) d (by omega)
    have e : k + (d + 1) = (k + d) + 1 := by omega
    have e2 : k + 1 + d = k + d + 1 := by omega
    rw [e2] at h1
    rw [e, within, if_neg (by omega), ih (by omega)]
    omega
theorem next_break {f : Nat → Int} {wanted : Int} (h : okW f) {k most : Nat} (hs : sumTo f k ≤ wanted) (hgt : wanted < sumTo f (k + 1)) (h1 : k + 1 ≤ most) (h2 : most ≤ 15) : next f wanted most = k + 1 := by
  unfold next
  obtain ⟨d, rfl⟩ : ∃ d, most = k + 1 + d := ⟨most - (k + 1), by omega⟩
  have e : k + 1 + d - 1 = k + d := by omega
  rw [e, within_stop h hs hgt d h2]
theorem next_end {f : Nat → Int} {wanted : Int} (h : okW f) {most : Nat} (hs : sumTo f most ≤ wanted) (h1 : 1 ≤ most) (h2 : most ≤ 15) : next f wanted most = most := by
  unfold next
  obtain ⟨d, rfl⟩ : ∃ d, most = d + 1 := ⟨most - 1, by omega⟩
  have h3 := sumTo_succ h (k := d) (by omega)
  rw [Nat.add_sub_cancel, within_all h d (by omega) (by omega)]
  omega
theorem within_bound (f : Nat → Int) (wanted : Int) : ∀ k, 0 ≤ within f wanted k ∧ within f wanted k ≤ k := by
  intro k
  induction k with
  | zero => simp [within]
  | succ k ih =>
    rw [within]
    split <;> omega
theorem next_bound (f : Nat → Int) (wanted : Int) {most : Nat} (h : 1 ≤ most) : 1 ≤ next f wanted most ∧ next f wanted most ≤ most := by
  have := within_bound f wanted (most - 1)
  unfold next
  omega

theorem break_at {f : Nat → Int} {wanted : Int} : ∀ m, sumTo f 0 ≤ wanted → wanted < sumTo f m → ∃ k, k < m ∧ sumTo f k ≤ wanted ∧ wanted < sumTo f (k + 1) := by
  intro m
  induction m with
  | zero => intro h0 h1; omega
  | succ m ih =>
    intro h0 h1
    by_cases h : sumTo f m ≤ wanted
    · exact ⟨m, by omega, h, h1⟩
    · obtain ⟨k, hk, h2⟩ := ih h0 (by omega)
      exact ⟨k, by omega, h2⟩
theorem next_spec {f : Nat → Int} {wanted : Int} {most : Nat} (h : okW f) (h0 : 0 ≤ wanted) (h1 : 1 ≤ most) (h2 : most ≤ 15) :
    ∃ x : Nat, next f wanted most = x ∧ 1 ≤ x ∧ x ≤ most ∧ sumTo f (x - 1) ≤ wanted ∧ (x = most ∨ (x < most ∧ wanted < sumTo f x)) := by
  by_cases hs : sumTo f most ≤ wanted
  · refine ⟨most, next_end h hs h1 h2, h1, Nat.le_refl _, ?_, .inl rfl⟩
    have := sumTo_mono h (j := most - 1) 1 (by omega)
    rw [show most - 1 + 1 = most from by omega] at this
    omega
  · obtain ⟨k, hk, h3, h4⟩ := break_at most (by simpa [sumTo] using h0) (show wanted < sumTo f most by omega)
    refine ⟨k + 1, by rw [next_break h h3 h4 (by omega) h2]; omega, by omega, by omega, by simpa using h3, ?_⟩
    by_cases e : k + 1 = most
    · exact .inl e
    · exact .inr ⟨by omega, h4⟩

def upd (f : Nat → Int) (a : Nat) (v : Int) (i : Nat) : Int := if i = a then v else f i
theorem sumTo_upd {f : Nat → Int} {a : Nat} {v : Int} (hv : f a ≤ v) : ∀ k, sumTo f k ≤ sumTo (upd f a v) k := by
  intro k
  induction k with
  | zero => exact Int.le_refl _
  | succ k ih =>
    simp only [sumTo, upd]
    split
    · rename_i e
      rw [e]
      omega
    · omega
theorem sumTo_upd0 {f : Nat → Int} {v : Int} : ∀ k, sumTo (upd f 0 v) k = sumTo f k := by
  intro k
  induction k with
  | zero => rfl
  | succ k ih => simp only [sumTo, ih, upd]; simp
theorem within_upd {f : Nat → Int} {a : Nat} {v wanted : Int} (hv : f a ≤ v) : ∀ k, within (upd f a v) wanted k ≤ within f wanted k := by
  intro k
  induction k with
  | zero => exact Int.le_refl _
  | succ k ih =>
    have := sumTo_upd hv (k + 1)
    simp only [within]
    split <;> split <;> omega
theorem within_upd0 {f : Nat → Int} {v wanted : Int} : ∀ k, within (upd f 0 v) wanted k = within f wanted k := by
  intro k
  induction k with
  | zero => rfl
  | succ k ih => simp only [within, ih, sumTo_upd0]
theorem next_upd {f : Nat → Int} {a : Nat} {v wanted : Int} {most : Nat} (hv : f a ≤ v) : next (upd f a v) wanted most ≤ next f wanted most := by
  unfold next
  have := within_upd (wanted := wanted) hv (most - 1)
  omega
theorem next_upd0 {f : Nat → Int} {v wanted : Int} {most : Nat} : next (upd f 0 v) wanted most = next f wanted most := by
  unfold next
  rw [within_upd0]

/-- The past, one place on. -/
def shift (p : Nat → Int) (x : Int) (i : Nat) : Int := if i = 15 then x else p (i + 1)
end Go.Proofs.YtdcppdgnekhcgaaDoor.Ten
