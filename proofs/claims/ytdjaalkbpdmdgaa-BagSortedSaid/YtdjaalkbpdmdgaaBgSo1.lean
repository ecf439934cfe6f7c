/-
  Bag: tables in order (plain): what Set, Drop, Get and Near do there; a list's numbers laid in by place, some taken out.
-/
import Derived.Test.YtdjaalkbpdmdgaaBg28
namespace Go.Proofs.Ytdjaalkbpdmdgaa
open Go.RowKit
set_option linter.unusedVariables false

/-- The keys rise. -/
def Rise (l : List PN) : Prop := l.Pairwise (fun a b => a.1 < b.1)

theorem Rise.cut {l : List PN} (h : Rise l) (k : Int) : ∃ A B, l = A ++ B ∧ (∀ p ∈ A, p.1 < k) ∧ (∀ p ∈ B, k ≤ p.1) ∧ plN l k = A.length := by
  induction l with
  | nil => exact ⟨[], [], rfl, by simp, by simp, rfl⟩
  | cons q l ih =>
    have hq := List.pairwise_cons.1 h
    by_cases hk : q.1 < k
    · obtain ⟨A, B, rfl, h1, h2, _⟩ := ih hq.2
      refine ⟨q :: A, B, rfl, ?_, h2, ?_⟩
      · intro p hp
        rcases List.mem_cons.1 hp with rfl | hp
        · exact hk
        · exact h1 p hp
      · refine plN_of (fun i p hi hp => ?_) (fun i p hi hp => ?_) (by simp)
        · rw [← List.cons_append, List.getElem?_append_left hi] at hp
          rcases List.mem_cons.1 (List.mem_of_getElem? hp) with rfl | hp
          · exact hk
          · exact h1 p hp
        · rw [← List.cons_append, List.getElem?_append_right hi] at hp
          exact h2 p (List.mem_of_getElem? hp)
    · refine ⟨[], q :: l, rfl, by simp, ?_, ?_⟩
      · intro p hp
        rcases List.mem_cons.1 hp with rfl | hp
        · omega
        · have := hq.1 p hp; omega
      · refine plN_of (fun i p hi hp => by simp at hi) (fun i p hi hp => ?_) (by simp)
        rcases List.mem_cons.1 (List.mem_of_getElem? hp) with rfl | hp
        · omega
        · have := hq.1 p hp; omega

/-- What stands where the key belongs. -/
theorem Rise.at {l : List PN} (h : Rise l) (k : Int) : (∃ A v B, l = A ++ (k, v) :: B ∧ (∀ p ∈ A, p.1 < k) ∧ (∀ p ∈ B, k < p.1) ∧ plN l k = A.length ∧ pbN l k = true) ∨
    (∃ A B, l = A ++ B ∧ (∀ p ∈ A, p.1 < k) ∧ (∀ p ∈ B, k < p.1) ∧ plN l k = A.length ∧ pbN l k = false) := by
  obtain ⟨A, B, rfl, h1, h2, h3⟩ := h.cut k
  have hB := (List.pairwise_append.1 h).2.1
  cases B with
  | nil =>
    refine .inr ⟨A, [], rfl, h1, by simp, h3, ?_⟩
    rw [pbN_of h3, List.getElem?_eq_none (by simp)]
  | cons q B =>
    have hq := List.pairwise_cons.1 hB
    have hc : (A ++ q :: B)[A.length]? = some q := by rw [List.getElem?_append_right (Nat.le_refl _)]; simp
    by_cases he : q.1 = k
    · subst he
      refine .inl ⟨A, q.2, B, rfl, h1, hq.1, h3, ?_⟩
      rw [pbN_of h3, hc]
      exact decide_eq_true rfl
    · refine .inr ⟨A, q :: B, rfl, h1, ?_, h3, ?_⟩
      · intro p hp
        have hqk := h2 q (by simp)
        rcases List.mem_cons.1 hp with rfl | hp
        · omega
        · have := hq.1 p hp; omega
      · rw [pbN_of h3, hc]
        exact decide_eq_false he

theorem rise_join {A B : List PN} {k v : Int} (h : Rise (A ++ B)) (h1 : ∀ p ∈ A, p.1 < k) (h2 : ∀ p ∈ B, k < p.1) : Rise (A ++ (k, v) :: B) := by
  obtain ⟨a, b, c⟩ := List.pairwise_append.1 h
  refine List.pairwise_append.2 ⟨a, List.pairwise_cons.2 ⟨h2, b⟩, fun p hp q hq => ?_⟩
  rcases List.mem_cons.1 hq with rfl | hq
  · exact h1 p hp
  · exact c p hp q hq
theorem rise_part {A B : List PN} {q : PN} (h : Rise (A ++ q :: B)) : Rise (A ++ B) := by
  obtain ⟨a, b, c⟩ := List.pairwise_append.1 h
  exact List.pairwise_append.2 ⟨a, (List.pairwise_cons.1 b).2, fun p hp r hr => c p hp r (List.mem_cons_of_mem _ hr)⟩

theorem rise_set {l : List PN} (h : Rise l) (k v : Int) : Rise (tsetN l k v) ∧ ∀ p, p ∈ tsetN l k v ↔ p = (k, v) ∨ (p.1 ≠ k ∧ p ∈ l) := by
  rcases h.at k with ⟨A, u, B, rfl, h1, h2, h3, h4⟩ | ⟨A, B, rfl, h1, h2, h3, h4⟩
  · have e : tsetN (A ++ (k, u) :: B) k v = A ++ (k, v) :: B := by
      unfold tsetN
      rw [if_pos h4, h3, List.getElem?_append_right (Nat.le_refl _)]
      simp
    rw [e]
    refine ⟨rise_join (rise_part h) h1 h2, fun p => ?_⟩
    simp only [List.mem_append, List.mem_cons]
    constructor
    · rintro (hp | rfl | hp)
      · exact .inr ⟨by have := h1 p hp; omega, .inl hp⟩
      · exact .inl rfl
      · exact .inr ⟨by have := h2 p hp; omega, .inr (.inr hp)⟩
    · rintro (rfl | ⟨hk, hp | rfl | hp⟩)
      · exact .inr (.inl rfl)
      · exact .inl hp
      · exact absurd rfl hk
      · exact .inr (.inr hp)
  · have e : tsetN (A ++ B) k v = A ++ (k, v) :: B := by
      unfold tsetN
      rw [if_neg (by rw [h4]; simp), h3]
      simp
    rw [e]
    refine ⟨rise_join h h1 h2, fun p => ?_⟩
    simp only [List.mem_append, List.mem_cons]
    constructor
    · rintro (hp | rfl | hp)
      · exact .inr ⟨by have := h1 p hp; omega, .inl hp⟩
      · exact .inl rfl
      · exact .inr ⟨by have := h2 p hp; omega, .inr hp⟩
    · rintro (rfl | ⟨hk, hp | hp⟩)
      · exact .inr (.inl rfl)
      · exact .inl hp
      · exact .inr (.inr hp)
theorem rise_drop {l : List PN} (h : Rise l) (k : Int) : Rise (tdropN l k) ∧ ∀ p, p ∈ tdropN l k ↔ p.1 ≠ k ∧ p ∈ l := by
  rcases h.at k with ⟨A, u, B, rfl, h1, h2, h3, h4⟩ | ⟨A, B, rfl, h1, h2, h3, h4⟩
  · have e : tdropN (A ++ (k, u) :: B) k = A ++ B := by
      unfold tdropN
      rw [if_pos h4, h3]
      simp
    rw [e]
    refine ⟨rise_part h, fun p => ?_⟩
    simp only [List.mem_append, List.mem_cons]
    constructor
    · rintro (hp | hp)
      · exact ⟨by have := h1 p hp; omega, .inl hp⟩
      · exact ⟨by have := h2 p hp; omega, .inr (.inr hp)⟩
    · rintro ⟨hk, hp | rfl | hp⟩
      · exact .inl hp
      · exact absurd rfl hk
      · exact .inr hp
  · have e : tdropN (A ++ B) k = A ++ B := by
      unfold tdropN
      rw [if_neg (by rw [h4]; simp)]
    rw [e]
    refine ⟨h, fun p => ?_⟩
    simp only [List.mem_append]
    constructor
    · rintro (hp | hp)
      · exact ⟨by have := h1 p hp; omega, .inl hp⟩
      · exact ⟨by have := h2 p hp; omega, .inr hp⟩
    · rintro ⟨_, hp⟩
      exact hp
theorem rise_get {l : List PN} (h : Rise l) (k v : Int) : gtN l k = some v ↔ (k, v) ∈ l := by
  rcases h.at k with ⟨A, u, B, rfl, h1, h2, h3, h4⟩ | ⟨A, B, rfl, h1, h2, h3, h4⟩
  · have e : gtN (A ++ (k, u) :: B) k = some u := by
      unfold gtN
      rw [if_pos h4, h3, List.getElem?_append_right (Nat.le_refl _)]
      simp
    rw [e]
    simp only [List.mem_append, List.mem_cons, Prod.mk.injEq, true_and, Option.some.injEq]
    constructor
    · rintro rfl; exact .inr (.inl rfl)
    · rintro (hp | rfl | hp)
      · have := h1 _ hp; simp at this
      · rfl
      · have := h2 _ hp; simp at this
  · have e : gtN (A ++ B) k = none := by
      unfold gtN
      rw [if_neg (by rw [h4]; simp)]
    rw [e]
    simp only [List.mem_append, reduceCtorEq, false_iff, not_or]
    exact ⟨fun hp => by have := h1 _ hp; simp at this, fun hp => by have := h2 _ hp; simp at this⟩
/-- The last key not above k, of those gone through. -/
def nearK (l : List PN) (k : Int) : Option Int := l.foldl (fun s p => if p.1 ≤ k then some p.1 else s) none
theorem nearK_snoc (l : List PN) (p : PN) (k : Int) : nearK (l ++ [p]) k = if p.1 ≤ k then some p.1 else nearK l k := by
  unfold nearK
  rw [List.foldl_append]
  rfl
theorem nearK_skip (k : Int) : ∀ (B : List PN) (s : Option Int), (∀ p ∈ B, k < p.1) → B.foldl (fun s p => if p.1 ≤ k then some p.1 else s) s = s
  | [], s, _ => rfl
  | q :: B, s, h => by
    rw [List.foldl_cons, if_neg (by have := h q (by simp); omega)]
    exact nearK_skip k B s (fun p hp => h p (by simp [hp]))
theorem rise_near {l : List PN} (h : Rise l) (k : Int) : (nrN l k).map (·.1) = nearK l k := by
  rcases h.at k with ⟨A, u, B, rfl, h1, h2, h3, h4⟩ | ⟨A, B, rfl, h1, h2, h3, h4⟩
  · have e : nrN (A ++ (k, u) :: B) k = some (k, u) := by
      unfold nrN
      rw [if_pos h4, h3, List.getElem?_append_right (Nat.le_refl _)]
      simp
    rw [e]
    unfold nearK
    rw [List.foldl_append, List.foldl_cons, if_pos (Int.le_refl _), nearK_skip k B _ h2]
    rfl
  · have hn : nearK (A ++ B) k = nearK A k := by
      unfold nearK
      rw [List.foldl_append, nearK_skip k B _ h2]
    rw [hn]
    unfold nrN
    rw [if_neg (by rw [h4]; simp), h3]
    rcases List.eq_nil_or_concat A with rfl | ⟨A', q, rfl⟩
    · rfl
    · have hq : q.1 ≤ k := by have := h1 q (by simp); omega
      rw [List.concat_eq_append, nearK_snoc, if_pos hq, if_neg (show ¬ (A' ++ [q]).length = 0 by simp)]
      simp
theorem nrN_none {l : List PN} (h : Rise l) {k : Int} (hn : nearK l k = none) : nrN l k = none := by
  have := rise_near h k
  rw [hn] at this
  cases hh : nrN l k with
  | none => rfl
  | some p => rw [hh] at this; cases this
theorem nrN_some {l : List PN} (h : Rise l) {k q : Int} (hn : nearK l k = some q) : ∃ u, nrN l k = some (q, u) := by
  have := rise_near h k
  rw [hn] at this
  cases hh : nrN l k with
  | none => rw [hh] at this; cases this
  | some p => rw [hh] at this; injection this with this; subst this; exact ⟨p.2, rfl⟩

/-- The list's first k numbers laid in by place. -/
structure FI (l : List Int) (k : Nat) (T : List PN) : Prop where
  rise : Rise T
  mem : ∀ p, p ∈ T ↔ ∃ i : Nat, i < k ∧ l[i]? = some p.1 ∧ p.2 = (i : Int) ∧ ∀ j, i < j → j < k → l[j]? ≠ some p.1
  len : T.length ≤ k
theorem FI.nil (l : List Int) : FI l 0 [] := ⟨List.Pairwise.nil, fun p => by simp, by simp⟩
theorem FI.set {l : List Int} {k : Nat} {T : List PN} (h : FI l k T) {x : Int} (hx : l[k]? = some x) : FI l (k + 1) (tsetN T x ((k : Nat) : Int)) := by
  obtain ⟨r, hm⟩ := rise_set h.rise x ((k : Nat) : Int)
  refine ⟨r, fun p => ?_, by have := tsetN_len T x ((k : Nat) : Int); have := h.len; omega⟩
  rw [hm p]
  constructor
  · rintro (rfl | ⟨hne, hp⟩)
    · exact ⟨k, by omega, hx, rfl, fun j h1 h2 => by omega⟩
    · obtain ⟨i, h1, h2, h3, h4⟩ := (h.mem p).1 hp
      refine ⟨i, by omega, h2, h3, fun j g1 g2 => ?_⟩
      by_cases hj : j = k
      · subst hj; rw [hx]; intro e; injection e with e; exact hne e.symm
      · exact h4 j g1 (by omega)
  · rintro ⟨i, h1, h2, h3, h4⟩
    by_cases hi : i = k
    · subst hi
      rw [hx] at h2
      injection h2 with h2
      exact .inl (Prod.ext h2.symm h3)
    · refine .inr ⟨fun e => h4 k (by omega) (by omega) (by rw [hx, e]), (h.mem p).2 ⟨i, by omega, h2, h3, fun j g1 g2 => h4 j g1 (by omega)⟩⟩
/-- And the first k numbers of d taken out. -/
structure DI (l d : List Int) (k : Nat) (T : List PN) : Prop where
  rise : Rise T
  mem : ∀ p, p ∈ T ↔ (∃ i : Nat, i < l.length ∧ l[i]? = some p.1 ∧ p.2 = (i : Int) ∧ ∀ j, i < j → j < l.length → l[j]? ≠ some p.1) ∧ ∀ j, j < k → d[j]? ≠ some p.1
  len : T.length ≤ l.length
theorem DI.of {l : List Int} {T : List PN} (h : FI l l.length T) (d : List Int) : DI l d 0 T := ⟨h.rise, fun p => by rw [h.mem p]; simp, h.len⟩
theorem DI.drop {l d : List Int} {k : Nat} {T : List PN} (h : DI l d k T) {x : Int} (hx : d[k]? = some x) : DI l d (k + 1) (tdropN T x) := by
  obtain ⟨r, hm⟩ := rise_drop h.rise x
  refine ⟨r, fun p => ?_, by have := tdropN_len T x; have := h.len; omega⟩
  rw [hm p, h.mem p]
  constructor
  · rintro ⟨hne, h1, h2⟩
    refine ⟨h1, fun j hj => ?_⟩
    by_cases e : j = k
    · subst e; rw [hx]; intro e; injection e with e; exact hne e.symm
    · exact h2 j (by omega)
  · rintro ⟨h1, h2⟩
    exact ⟨fun e => h2 k (by omega) (by rw [hx, e]), h1, fun j hj => h2 j (by omega)⟩

/-- Is x among the first k of d? -/
def goneB (d : List Int) (k : Nat) (x : Int) : Bool := (d.take k).any (fun y => y == x)
theorem goneB_zero (d : List Int) (x : Int) : goneB d 0 x = false := rfl
theorem goneB_succ {d : List Int} {k : Nat} {x y : Int} (hy : d[k]? = some y) : goneB d (k + 1) x = (goneB d k x || y == x) := by
  unfold goneB
  obtain ⟨h1, h2⟩ := List.getElem?_eq_some_iff.1 hy
  rw [List.take_succ_eq_append_getElem h1, h2, List.any_append]
  simp
theorem goneB_no {d : List Int} {x : Int} (h : goneB d d.length x = false) : ∀ j : Nat, d[j]? ≠ some x := fun j hj => by
  unfold goneB at h
  rw [List.take_of_length_le (Nat.le_refl _), List.any_eq_false] at h
  exact h x (List.mem_of_getElem? hj) (by simp)
theorem goneB_yes {d : List Int} {x : Int} (h : goneB d d.length x = true) : ∃ j : Nat, j < d.length ∧ d[j]? = some x := by
  unfold goneB at h
  rw [List.take_of_length_le (Nat.le_refl _), List.any_eq_true] at h
  obtain ⟨y, hy, he⟩ := h
  obtain ⟨j, hj⟩ := List.mem_iff_getElem?.1 hy
  have : y = x := by simpa using he
  subst this
  exact ⟨j, (List.getElem?_eq_some_iff.1 hj).1, hj⟩
/-- The last place of a number. -/
theorem last_at (l : List Int) (x : Int) (i : Nat) (hx : l[i]? = some x) : ∃ q, i ≤ q ∧ q < l.length ∧ l[q]? = some x ∧ ∀ j, q < j → j < l.length → l[j]? ≠ some x := by
  have hi := (List.getElem?_eq_some_iff.1 hx).1
  by_cases h : ∃ j, i < j ∧ l[j]? = some x
  · obtain ⟨j, h1, h2⟩ := h
    have hj := (List.getElem?_eq_some_iff.1 h2).1
    obtain ⟨q, a, b, c, e⟩ := last_at l x j h2
    exact ⟨q, by omega, b, c, e⟩
  · exact ⟨i, Nat.le_refl _, hi, hx, fun j h1 _ h3 => h ⟨j, h1, h3⟩⟩
termination_by l.length - i
decreasing_by omega
theorem DI.get_no {l d : List Int} {T : List PN} (h : DI l d d.length T) {x : Int} (hg : goneB d d.length x = true) : gtN T x = none := by
  cases hh : gtN T x with
  | none => rfl
  | some v =>
    obtain ⟨j, h1, h2⟩ := goneB_yes hg
    exact absurd h2 (((h.mem _).1 ((rise_get h.rise x v).1 hh)).2 j h1)
theorem DI.get_yes {l d : List Int} {T : List PN} (h : DI l d d.length T) {i : Nat} {x : Int} (hx : l[i]? = some x) (hg : goneB d d.length x = false) : ∃ q : Nat, i ≤ q ∧ q < l.length ∧ l[q]? = some x ∧ gtN T x = some ((q : Nat) : Int) := by
  obtain ⟨q, h1, h2, h3, h4⟩ := last_at l x i hx
  exact ⟨q, h1, h2, h3, (rise_get h.rise x _).2 ((h.mem _).2 ⟨⟨q, h2, h3, rfl, h4⟩, fun j _ => goneB_no hg j⟩)⟩
theorem DI.has {l d : List Int} {k : Nat} {T : List PN} (h : DI l d k T) {p : PN} (hp : p ∈ T) : gtN T p.1 = some p.2 ∧ ∃ q : Nat, p.2 = (q : Int) ∧ q < l.length ∧ l[q]? = some p.1 := by
  obtain ⟨⟨i, h1, h2, h3, _⟩, _⟩ := (h.mem p).1 hp
  exact ⟨(rise_get h.rise p.1 p.2).2 hp, i, h3, h1, h2⟩
/-- The last key gone through. -/
def lastK (pre : List PN) : Int := match pre.getLast? with
  | some p => p.1
  | none => 0
theorem lastK_snoc (pre : List PN) (p : PN) : lastK (pre ++ [p]) = p.1 := by simp [lastK]
theorem lastK_lt {T pre : List PN} {p : PN} (h : Rise T) (hp : pre ++ [p] <+: T) (h0 : pre ≠ []) : lastK pre < p.1 := by
  obtain ⟨r, rfl⟩ := hp
  rcases List.eq_nil_or_concat pre with rfl | ⟨A, q, rfl⟩
  · exact absurd rfl h0
  · rw [List.concat_eq_append, lastK_snoc]
    rw [List.concat_eq_append] at h
    have h1 := (List.pairwise_append.1 h).1
    exact (List.pairwise_append.1 h1).2.2 q (by simp) p (by simp)
end Go.Proofs.Ytdjaalkbpdmdgaa
