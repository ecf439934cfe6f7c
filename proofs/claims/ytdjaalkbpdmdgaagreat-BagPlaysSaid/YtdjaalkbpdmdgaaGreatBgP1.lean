/-
  Bag: a table in the keys' order, in plain Lean.
-/
import Derived.Test.YtdjaalkbpdmdgaaGreatBgz23
import Derived.Test.YtdjaalkbpdmdgaaGreatBg5
namespace Go.Proofs.YtdjaalkbpdmdgaaGreat
set_option linter.unusedVariables false

theorem cmN_lt (a k : Int) : decide (cmN a k < 0) = decide (a < k) := by
  unfold cmN ltN eqN
  by_cases h : a < k
  · simp [h]
  · by_cases h2 : a = k
    · simp [h2]
    · simp [h, h2]
theorem cmN_eq (a k : Int) : decide (cmN a k = 0) = decide (a = k) := by
  unfold cmN ltN eqN
  by_cases h : a < k
  · have : a ≠ k := by omega
    simp [h, this]
  · by_cases h2 : a = k
    · simp [h2]
    · simp [h, h2]
theorem plN_of {l : List PN} {k : Int} {j : Nat} (h1 : ∀ i p, i < j → l[i]? = some p → p.1 < k) (h2 : ∀ i p, j ≤ i → l[i]? = some p → k ≤ p.1) (hj : j ≤ l.length) : plN l k = j := by
  refine bsF_spec _ j (fun t ht => ?_) (fun t ht => ?_) _ _ _ (by omega) (Nat.zero_le _) hj
  · unfold lessN
    obtain ⟨p, hp⟩ : ∃ p, l[t]? = some p := ⟨_, List.getElem?_eq_getElem (by omega)⟩
    rw [hp]
    show decide (cmN p.1 k < 0) = true
    rw [cmN_lt]
    exact decide_eq_true (h1 t p ht hp)
  · unfold lessN
    cases hp : l[t]? with
    | none => rfl
    | some p =>
      show decide (cmN p.1 k < 0) = false
      rw [cmN_lt]
      exact decide_eq_false (by have := h2 t p ht hp; omega)
theorem pbN_of {l : List PN} {k : Int} {j : Nat} (h : plN l k = j) : pbN l k = match l[j]? with
  | some p => decide (p.1 = k)
  | none => false := by
  unfold pbN
  rw [h]
  cases l[j]? with
  | none => rfl
  | some p => exact cmN_eq _ _
def Rise (l : List PN) : Prop := l.Pairwise (fun a b => a.1 < b.1)

theorem Rise.cut {l : List PN} (h : Rise l) (k : Int) : ∃ A B, l = A ++ B ∧ (∀ p ∈ A, p.1 < k) ∧ (∀ p ∈ B, k ≤ p.1) ∧ plN l k = A.length := by
  induction l with
  | nil => exact ⟨[], [], rfl, by simp, by simp, rfl⟩
  | cons q l ih =>
    have hq := List.pairwise_cons.1 h
    by_cases hk : q.1 < k
    · obtain ⟨A, B, rfl, h1, h2, _⟩ := ih hq.2
      refine ⟨q :: A, B, rfl, ?_, h2, ?_⟩
      · intro p hp
        rcases List.mem_cons.1 hp with rfl | hp
        · exact hk
        · exact h1 p hp
      · refine plN_of (fun i p hi hp => ?_) (fun i p hi hp => ?_) (by simp)
        · rw [← List.cons_append, List.getElem?_append_left hi] at hp
          rcases List.mem_cons.1 (List.mem_of_getElem? hp) with rfl | hp
          · exact hk
          · exact h1 p hp
        · rw [← List.cons_append, List.getElem?_append_right hi] at hp
          exact h2 p (List.mem_of_getElem? hp)
    · refine ⟨[], q :: l, rfl, by simp, ?_, ?_⟩
      · intro p hp
        rcases List.mem_cons.1 hp with rfl | hp
        · omega
        · have := hq.1 p hp; omega
      · refine plN_of (fun i p hi hp => by simp at hi) (fun i p hi hp => ?_) (by simp)
        rcases List.mem_cons.1 (List.mem_of_getElem? hp) with rfl | hp
        · omega
        · have := hq.1 p hp; omega

/-- What stands where the key belongs. -/
theorem Rise.at {l : List PN} (h : Rise l) (k : Int) : (∃ A v B, l = A ++ (k, v) :: B ∧ (∀ p ∈ A, p.1 < k) ∧ (∀ p ∈ B, k < p.1) ∧ plN l k = A.length ∧ pbN l k = true) ∨
    (∃ A B, l = A ++ B ∧ (∀ p ∈ A, p.1 < k) ∧ (∀ p ∈ B, k < p.1) ∧ plN l k = A.length ∧ pbN l k = false) := by
  obtain ⟨A, B, rfl, h1, h2, h3⟩ := h.cut k
  have hB := (List.pairwise_append.1 h).2.1
  cases B with
  | nil =>
    refine .inr ⟨A, [], rfl, h1, by simp, h3, ?_⟩
    rw [pbN_of h3, List.getElem?_eq_none (by simp)]
  | cons q B =>
    have hq := List.pairwise_cons.1 hB
    have hc : (A ++ q :: B)[A.length]? = some q := by rw [List.getElem?_append_right (Nat.le_refl _)]; simp
    by_cases he : q.1 = k
    · subst he
      refine .inl ⟨A, q.2, B, rfl, h1, hq.1, h3, ?_⟩
      rw [pbN_of h3, hc]
      exact decide_eq_true rfl
    · refine .inr ⟨A, q :: B, rfl, h1, ?_, h3, ?_⟩
      · intro p hp
        have hqk := h2 q (by simp)
        rcases List.mem_cons.1 hp with rfl | hp
        · omega
        · have := hq.1 p hp; omega
      · rw [pbN_of h3, hc]
        exact decide_eq_false he

theorem rise_join {A B : List PN} {k v : Int} (h : Rise (A ++ B)) (h1 : ∀ p ∈ A, p.1 < k) (h2 : ∀ p ∈ B, k < p.1) : Rise (A ++ (k, v) :: B) := by
  obtain ⟨a, b, c⟩ := List.pairwise_append.1 h
  refine List.pairwise_append.2 ⟨a, List.pairwise_cons.2 ⟨h2, b⟩, fun p hp q hq => ?_⟩
  rcases List.mem_cons.1 hq with rfl | hq
  · exact h1 p hp
  · exact c p hp q hq
theorem rise_part {A B : List PN} {q : PN} (h : Rise (A ++ q :: B)) : Rise (A ++ B) := by
  obtain ⟨a, b, c⟩ := List.pairwise_append.1 h
  exact List.pairwise_append.2 ⟨a, (List.pairwise_cons.1 b).2, fun p hp r hr => c p hp r (List.mem_cons_of_mem _ hr)⟩

theorem rise_set {l : List PN} (h : Rise l) (k v : Int) : Rise (tsetN l k v) ∧ ∀ p, p ∈ tsetN l k v ↔ p = (k, v) ∨ (p.1 ≠ k ∧ p ∈ l) := by
  rcases h.at k with ⟨A, u, B, rfl, h1, h2, h3, h4⟩ | ⟨A, B, rfl, h1, h2, h3, h4⟩
  · have e : tsetN (A ++ (k, u) :: B) k v = A ++ (k, v) :: B := by
      unfold tsetN
      rw [if_pos h4, h3, List.getElem?_append_right (Nat.le_refl _)]
      simp
    rw [e]
    refine ⟨rise_join (rise_part h) h1 h2, fun p => ?_⟩
    simp only [List.mem_append, List.mem_cons]
    constructor
    · rintro (hp | rfl | hp)
      · exact .inr ⟨by have := h1 p hp; omega, .inl hp⟩
      · exact .inl rfl
      · exact .inr ⟨by have := h2 p hp; omega, .inr (.inr hp)⟩
    · rintro (rfl | ⟨hk, hp | rfl | hp⟩)
      · exact .inr (.inl rfl)
      · exact .inl hp
      · exact absurd rfl hk
      · exact .inr (.inr hp)
  · have e : tsetN (A ++ B) k v = A ++ (k, v) :: B := by
      unfold tsetN
      rw [if_neg (by rw [h4]; simp), h3]
      simp
    rw [e]
    refine ⟨rise_join h h1 h2, fun p => ?_⟩
    simp only [List.mem_append, List.mem_cons]
    constructor
    · rintro (hp | rfl | hp)
      · exact .inr ⟨by have := h1 p hp; omega, .inl hp⟩
      · exact .inl rfl
      · exact .inr ⟨by have := h2 p hp; omega, .inr hp⟩
    · rintro (rfl | ⟨hk, hp | hp⟩)
      · exact .inr (.inl rfl)
      · exact .inl hp
      · exact .inr (.inr hp)
theorem rise_drop {l : List PN} (h : Rise l) (k : Int) : Rise (tdropN l k) ∧ ∀ p, p ∈ tdropN l k ↔ p.1 ≠ k ∧ p ∈ l := by
  rcases h.at k with ⟨A, u, B, rfl, h1, h2, h3, h4⟩ | ⟨A, B, rfl, h1, h2, h3, h4⟩
  · have e : tdropN (A ++ (k, u) :: B) k = A ++ B := by
      unfold tdropN
      rw [if_pos h4, h3]
      simp
    rw [e]
    refine ⟨rise_part h, fun p => ?_⟩
    simp only [List.mem_append, List.mem_cons]
    constructor
    · rintro (hp | hp)
      · exact ⟨by have := h1 p hp; omega, .inl hp⟩
      · exact ⟨by have := h2 p hp; omega, .inr (.inr hp)⟩
    · rintro ⟨hk, hp | rfl | hp⟩
      · exact .inl hp
      · exact absurd rfl hk
      · exact .inr hp
  · have e : tdropN (A ++ B) k = A ++ B := by
      unfold tdropN
      rw [if_neg (by rw [h4]; simp)]
    rw [e]
    refine ⟨h, fun p => ?_⟩
    simp only [List.mem_append]
    constructor
    · rintro (hp | hp)
      · exact ⟨by have := h1 p hp; omega, .inl hp⟩
      · exact ⟨by have := h2 p hp; omega, .inr hp⟩
    · rintro ⟨_, hp⟩
      exact hp
theorem rise_get {l : List PN} (h : Rise l) (k v : Int) : gtN l k = some v ↔ (k, v) ∈ l := by
  rcases h.at k with ⟨A, u, B, rfl, h1, h2, h3, h4⟩ | ⟨A, B, rfl, h1, h2, h3, h4⟩
  · have e : gtN (A ++ (k, u) :: B) k = some u := by
      unfold gtN
      rw [if_pos h4, h3, List.getElem?_append_right (Nat.le_refl _)]
      simp
    rw [e]
    simp only [List.mem_append, List.mem_cons, Prod.mk.injEq, true_and, Option.some.injEq]
    constructor
    · rintro rfl; exact .inr (.inl rfl)
    · rintro (hp | rfl | hp)
      · have := h1 _ hp; simp at this
      · rfl
      · have := h2 _ hp; simp at this
  · have e : gtN (A ++ B) k = none := by
      unfold gtN
      rw [if_neg (by rw [h4]; simp)]
    rw [e]
    simp only [List.mem_append, reduceCtorEq, false_iff, not_or]
    exact ⟨fun hp => by have := h1 _ hp; simp at this, fun hp => by have := h2 _ hp; simp at this⟩
/-- The last key not above k, of those gone through. -/
def nearK (l : List PN) (k : Int) : Option Int := l.foldl (fun s p => if p.1 ≤ k then some p.1 else s) none
theorem nearK_snoc (l : List PN) (p : PN) (k : Int) : nearK (l ++ [p]) k = if p.1 ≤ k then some p.1 else nearK l k := by
  unfold nearK
  rw [List.foldl_append]
  rfl
theorem nearK_skip (k : Int) : ∀ (B : List PN) (s : Option Int), (∀ p ∈ B, k < p.1) → B.foldl (fun s p => if p.1 ≤ k then some p.1 else s) s = s
  | [], s, _ => rfl
  | q :: B, s, h => by
    rw [List.foldl_cons, if_neg (by have := h q (by simp); omega)]
    exact nearK_skip k B s (fun p hp => h p (by simp [hp]))
theorem rise_near {l : List PN} (h : Rise l) (k : Int) : (nrN l k).map (·.1) = nearK l k := by
  rcases h.at k with ⟨A, u, B, rfl, h1, h2, h3, h4⟩ | ⟨A, B, rfl, h1, h2, h3, h4⟩
  · have e : nrN (A ++ (k, u) :: B) k = some (k, u) := by
      unfold nrN
      rw [if_pos h4, h3, List.getElem?_append_right (Nat.le_refl _)]
      simp
    rw [e]
    unfold nearK
    rw [List.foldl_append, List.foldl_cons, if_pos (Int.le_refl _), nearK_skip k B _ h2]
    rfl
  · have hn : nearK (A ++ B) k = nearK A k := by
      unfold nearK
      rw [List.foldl_append, nearK_skip k B _ h2]
    rw [hn]
    unfold nrN
    rw [if_neg (by rw [h4]; simp), h3]
    rcases List.eq_nil_or_concat A with rfl | ⟨A', q, rfl⟩
    · rfl
    · have hq : q.1 ≤ k := by have := h1 q (by simp); omega
      rw [List.concat_eq_append, nearK_snoc, if_pos hq, if_neg (show ¬ (A' ++ [q]).length = 0 by simp)]
      simp
theorem nrN_none {l : List PN} (h : Rise l) {k : Int} (hn : nearK l k = none) : nrN l k = none := by
  have := rise_near h k
  rw [hn] at this
  cases hh : nrN l k with
  | none => rfl
  | some p => rw [hh] at this; cases this
theorem nrN_some {l : List PN} (h : Rise l) {k q : Int} (hn : nearK l k = some q) : ∃ u, nrN l k = some (q, u) := by
  have := rise_near h k
  rw [hn] at this
  cases hh : nrN l k with
  | none => rw [hh] at this; cases this
  | some p => rw [hh] at this; injection this with this; subst this; exact ⟨p.2, rfl⟩

end Go.Proofs.YtdjaalkbpdmdgaaGreat
