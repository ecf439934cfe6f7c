/-
  Bag: a table in the keys' order and the document's pairs in any order: what each call does to both, in plain Lean.
-/
import Derived.Test.YtdjaalkbpdmdgaaGreatBgW4
namespace Go.Proofs.YtdjaalkbpdmdgaaGreat
set_option linter.unusedVariables false

/-- The same pairs, once in order, once as they came. -/
structure Rl (l r : List PN) : Prop where
  rise : Rise l
  nod : r.Pairwise (fun a b => a.1 ≠ b.1)
  mem : ∀ p, p ∈ l ↔ p ∈ r
  len : l.length = r.length
theorem Rl.nil : Rl [] [] := ⟨List.Pairwise.nil, List.Pairwise.nil, fun p => by simp, rfl⟩
theorem nod_at {r : List PN} (h : r.Pairwise (fun a b => a.1 ≠ b.1)) {i j : Nat} {p q : PN} (hi : r[i]? = some p) (hj : r[j]? = some q) (he : p.1 = q.1) : i = j := by
  rw [List.pairwise_iff_getElem] at h
  obtain ⟨i1, i2⟩ := List.getElem?_eq_some_iff.1 hi
  obtain ⟨j1, j2⟩ := List.getElem?_eq_some_iff.1 hj
  by_cases e : i = j
  · exact e
  · exfalso
    by_cases hlt : i < j
    · exact h i j i1 j1 hlt (by rw [i2, j2]; exact he)
    · exact h j i j1 i1 (by omega) (by rw [i2, j2]; exact he.symm)
theorem nod_mem {r : List PN} (h : r.Pairwise (fun a b => a.1 ≠ b.1)) {p q : PN} (hp : p ∈ r) (hq : q ∈ r) (he : p.1 = q.1) : p = q := by
  obtain ⟨i, hi⟩ := List.mem_iff_getElem?.1 hp
  obtain ⟨j, hj⟩ := List.mem_iff_getElem?.1 hq
  have := nod_at h hi hj he
  subst this
  rw [hi] at hj
  injection hj
theorem findA_no {r : List PN} {k : Int} (h : findA r k = none) : ∀ p ∈ r, p.1 ≠ k := fun p hp => by
  unfold findA at h
  rw [List.findIdx?_eq_none_iff] at h
  simpa using h p hp
section
variable {l r : List PN}
theorem Rl.find (h : Rl l r) (k : Int) : pbN l k = (findA r k).isSome := by
  rcases h.rise.at k with ⟨A, u, B, e, h1, h2, h3, h4⟩ | ⟨A, B, e, h1, h2, h3, h4⟩
  · rw [h4]
    cases hf : findA r k with
    | some i => rfl
    | none => exact absurd rfl (findA_no hf (k, u) ((h.mem _).1 (by rw [e]; simp)))
  · rw [h4]
    cases hf : findA r k with
    | none => rfl
    | some i =>
      obtain ⟨v, hv, _⟩ := findA_at hf
      have hm := (h.mem (k, v)).2 (List.mem_of_getElem? hv)
      rw [e, List.mem_append] at hm
      rcases hm with hm | hm
      · have := h1 _ hm
        simp at this
      · have := h2 _ hm
        simp at this
theorem tsetN_length (l : List PN) (k x : Int) : (tsetN l k x).length = if pbN l k then l.length else l.length + 1 := by
  unfold tsetN
  cases hb : pbN l k with
  | true =>
    simp only [if_true]
    split
    · simp
    · rfl
  | false =>
    have := plN_le l k
    simp
    omega
theorem tdropN_length (l : List PN) (k : Int) (h : Rise l) : (tdropN l k).length = if pbN l k then l.length - 1 else l.length := by
  unfold tdropN
  rcases h.at k with ⟨A, u, B, e, h1, h2, h3, h4⟩ | ⟨A, B, e, h1, h2, h3, h4⟩
  · rw [h4, h3, e]
    simp
  · rw [h4]
    simp
theorem Rl.set (h : Rl l r) (k x : Int) : Rl (tsetN l k x) (rsetR r k x) := by
  obtain ⟨h1, h2⟩ := rise_set h.rise k x
  have hf := h.find k
  refine ⟨h1, ?_, fun p => ?_, ?_⟩
  · unfold rsetR
    cases e : findA r k with
    | some i =>
      obtain ⟨v, hv, hi⟩ := findA_at e
      simp only
      rw [List.pairwise_iff_getElem]
      intro a b ha hb hab
      rw [List.getElem_set, List.getElem_set]
      have ha' : a < r.length := by simpa using ha
      have hb' : b < r.length := by simpa using hb
      have hn := List.pairwise_iff_getElem.1 h.nod a b ha' hb' hab
      have hri : r[i] = (k, v) := (List.getElem?_eq_some_iff.1 hv).2
      by_cases e1 : i = a
      · subst e1
        rw [if_pos rfl, if_neg (by omega)]
        rw [hri] at hn
        exact hn
      · rw [if_neg e1]
        by_cases e2 : i = b
        · subst e2
          rw [if_pos rfl]
          rw [hri] at hn
          exact hn
        · rw [if_neg e2]
          exact hn
    | none =>
      simp only
      refine List.pairwise_append.2 ⟨h.nod, by simp, fun a ha b hb => ?_⟩
      obtain rfl : b = (k, x) := by simpa using hb
      exact findA_no e a ha
  · rw [h2 p, h.mem p]
    unfold rsetR
    cases e : findA r k with
    | some i =>
      obtain ⟨v, hv, hi⟩ := findA_at e
      simp only
      constructor
      · rintro (rfl | ⟨hk, hp⟩)
        · exact List.mem_of_getElem? (List.getElem?_set_self hi)
        · obtain ⟨j, hj⟩ := List.mem_iff_getElem?.1 hp
          refine List.mem_of_getElem? (i := j) ?_
          rw [List.getElem?_set_ne (fun e => ?_)]
          · exact hj
          · subst e
            rw [hv] at hj
            injection hj with hj
            rw [← hj] at hk
            exact hk rfl
      · intro hp
        obtain ⟨j, hj⟩ := List.mem_iff_getElem?.1 hp
        by_cases e2 : i = j
        · subst e2
          rw [List.getElem?_set_self hi] at hj
          injection hj with hj
          exact .inl hj.symm
        · rw [List.getElem?_set_ne e2] at hj
          refine .inr ⟨fun hk => e2 (nod_at h.nod hv hj hk.symm), List.mem_of_getElem? hj⟩
    | none =>
      simp only [List.mem_append, List.mem_cons, List.not_mem_nil, or_false]
      constructor
      · rintro (rfl | ⟨_, hp⟩)
        · exact .inr rfl
        · exact .inl hp
      · rintro (hp | rfl)
        · exact .inr ⟨findA_no e p hp, hp⟩
        · exact .inl rfl
  · rw [tsetN_length, hf, h.len]
    unfold rsetR
    cases e : findA r k with
    | some i => simp
    | none => simp
theorem Rl.get (h : Rl l r) (k : Int) : gtN l k = rgetN r k := by
  unfold rgetN
  cases e : findA r k with
  | some i =>
    obtain ⟨v, hv, hi⟩ := findA_at e
    have : gtN l k = some v := (rise_get h.rise k v).2 ((h.mem _).2 (List.mem_of_getElem? hv))
    rw [this]
    simp [hv]
  | none =>
    cases hg : gtN l k with
    | none => rfl
    | some v => exact absurd rfl (findA_no e _ ((h.mem _).1 ((rise_get h.rise k v).1 hg)))
theorem Rl.drop (h : Rl l r) (k : Int) : Rl (tdropN l k) (rdropR r k) := by
  obtain ⟨h1, h2⟩ := rise_drop h.rise k
  have hf := h.find k
  cases e : findA r k with
  | none =>
    have e3 : rdropR r k = r := by unfold rdropR; rw [e]
    rw [e3]
    refine ⟨h1, h.nod, fun p => ?_, ?_⟩
    · rw [h2 p, h.mem p]
      exact ⟨fun x => x.2, fun x => ⟨findA_no e p x, x⟩⟩
    · rw [tdropN_length l k h.rise, hf, e]
      exact h.len
  | some i =>
    obtain ⟨v, hv, hi⟩ := findA_at e
    obtain ⟨m, hm⟩ : ∃ m, r.length = m + 1 := ⟨r.length - 1, by omega⟩
    obtain ⟨lp, hlp⟩ : ∃ lp, r[m]? = some lp := ⟨_, List.getElem?_eq_getElem (by omega)⟩
    have e3 : rdropR r k = (r.set i lp).take m := by
      unfold rdropR
      rw [e]
      simp only
      rw [hm, Nat.add_sub_cancel, List.getD_eq_getElem?_getD, hlp]
      rfl
    rw [e3]
    -- where each comes from
    have from_ : ∀ (j : Nat) (p : PN), ((r.set i lp).take m)[j]? = some p → j < m ∧ r[if j = i then m else j]? = some p := fun j p hj => by
      rw [List.getElem?_take] at hj
      split at hj
      · rename_i hjm
        refine ⟨hjm, ?_⟩
        by_cases e2 : j = i
        · subst e2
          rw [List.getElem?_set_self hi] at hj
          rw [if_pos rfl, hlp]
          exact hj
        · rw [List.getElem?_set_ne (Ne.symm e2)] at hj
          rw [if_neg e2]
          exact hj
      · cases hj
    have to_ : ∀ (j : Nat) (p : PN), r[j]? = some p → j ≠ i → p ∈ (r.set i lp).take m := fun j p hj hne => by
      have hjl := (List.getElem?_eq_some_iff.1 hj).1
      by_cases e2 : j = m
      · subst e2
        rw [hlp] at hj
        injection hj with hj
        subst hj
        refine List.mem_of_getElem? (i := i) ?_
        rw [List.getElem?_take, if_pos (by omega), List.getElem?_set_self hi]
      · refine List.mem_of_getElem? (i := j) ?_
        rw [List.getElem?_take, if_pos (by omega), List.getElem?_set_ne (Ne.symm hne)]
        exact hj
    refine ⟨h1, ?_, fun p => ?_, ?_⟩
    · rw [List.pairwise_iff_getElem]
      intro a b ha hb hab he
      obtain ⟨a1, a2⟩ := from_ a _ (List.getElem?_eq_getElem ha)
      obtain ⟨b1, b2⟩ := from_ b _ (List.getElem?_eq_getElem hb)
      have := nod_at h.nod a2 b2 he
      split at this <;> split at this <;> omega
    · rw [h2 p, h.mem p]
      constructor
      · rintro ⟨hk, hp⟩
        obtain ⟨j, hj⟩ := List.mem_iff_getElem?.1 hp
        refine to_ j p hj (fun e2 => ?_)
        subst e2
        rw [hv] at hj
        injection hj with hj
        rw [← hj] at hk
        exact hk rfl
      · intro hp
        obtain ⟨j, hj⟩ := List.mem_iff_getElem?.1 hp
        obtain ⟨j1, j2⟩ := from_ j p hj
        refine ⟨fun hk => ?_, List.mem_of_getElem? j2⟩
        have := nod_at h.nod hv j2 hk.symm
        split at this <;> omega
    · rw [tdropN_length l k h.rise, hf, e, h.len, List.length_take, List.length_set]
      simp
      omega
theorem nrN_spec (h : Rise l) (k : Int) : match nrN l k with | none => ∀ p ∈ l, ¬ p.1 ≤ k | some q => q ∈ l ∧ q.1 ≤ k ∧ ∀ p ∈ l, p.1 ≤ k → p.1 ≤ q.1 := by
  rcases h.at k with ⟨A, u, B, e, h1, h2, h3, h4⟩ | ⟨A, B, e, h1, h2, h3, h4⟩
  · have : nrN l k = some (k, u) := by
      unfold nrN
      rw [h4, h3, e]
      simp
    rw [this]
    exact ⟨by rw [e]; simp, Int.le_refl _, fun p _ hp => hp⟩
  · rcases List.eq_nil_or_concat A with rfl | ⟨A', q, rfl⟩
    · have : nrN l k = none := by
        unfold nrN
        rw [h4, h3]
        simp
      rw [this]
      intro p hp
      rw [e] at hp
      have := h2 p (by simpa using hp)
      omega
    · have : nrN l k = some q := by
        unfold nrN
        rw [h4, h3, e]
        simp
      rw [this]
      refine ⟨by rw [e]; simp, by have := h1 q (by simp); omega, fun p hp hk => ?_⟩
      rw [e] at hp h
      rcases List.mem_append.1 hp with hp | hp
      · have hp : p ∈ A' ∨ p = q := by simpa using hp
        rcases hp with hp | rfl
        · have h5 := (List.pairwise_append.1 h).1
          have h6 : (A' ++ [q]).Pairwise (fun a b => a.1 < b.1) := by simpa using h5
          have := (List.pairwise_append.1 h6).2.2 p hp q (by simp)
          omega
        · exact Int.le_refl _
      · have := h2 p hp
        omega
theorem nearR_spec (r : List PN) (k : Int) : match nearR r k with | none => ∀ p ∈ r, ¬ p.1 ≤ k | some q => q ∈ r ∧ q.1 ≤ k ∧ ∀ p ∈ r, p.1 ≤ k → p.1 ≤ q.1 := by
  have key : ∀ (r done : List PN) (s : Option PN), (match s with | none => ∀ p ∈ done, ¬ p.1 ≤ k | some q => q ∈ done ∧ q.1 ≤ k ∧ ∀ p ∈ done, p.1 ≤ k → p.1 ≤ q.1) →
      match r.foldl (bestK k) s with | none => ∀ p ∈ done ++ r, ¬ p.1 ≤ k | some q => q ∈ done ++ r ∧ q.1 ≤ k ∧ ∀ p ∈ done ++ r, p.1 ≤ k → p.1 ≤ q.1 := fun r => by
    induction r with
    | nil => intro done s hs; simpa using hs
    | cons x r ih =>
      intro done s hs
      have := ih (done ++ [x]) (bestK k s x) ?_
      · rw [List.foldl_cons]
        rw [List.append_assoc] at this
        exact this
      · unfold bestK
        cases s with
        | none =>
          simp only at hs ⊢
          by_cases hx : x.1 ≤ k
          · rw [if_pos hx]
            refine ⟨by simp, hx, fun p hp hk => ?_⟩
            rcases List.mem_append.1 hp with hp | hp
            · exact absurd hk (hs p hp)
            · obtain rfl : p = x := by simpa using hp
              exact Int.le_refl _
          · rw [if_neg hx]
            intro p hp
            rcases List.mem_append.1 hp with hp | hp
            · exact hs p hp
            · obtain rfl : p = x := by simpa using hp
              exact hx
        | some q =>
          simp only at hs ⊢
          obtain ⟨q1, q2, q3⟩ := hs
          by_cases hx : x.1 ≤ k ∧ q.1 < x.1
          · rw [if_pos hx]
            refine ⟨by simp, hx.1, fun p hp hk => ?_⟩
            rcases List.mem_append.1 hp with hp | hp
            · have := q3 p hp hk
              omega
            · obtain rfl : p = x := by simpa using hp
              exact Int.le_refl _
          · rw [if_neg hx]
            refine ⟨List.mem_append_left _ q1, q2, fun p hp hk => ?_⟩
            rcases List.mem_append.1 hp with hp | hp
            · exact q3 p hp hk
            · obtain rfl : p = x := by simpa using hp
              omega
  have := key r [] none (by simp)
  rw [List.nil_append] at this
  exact this
theorem Rl.near (h : Rl l r) (k : Int) : nrN l k = nearR r k := by
  have a := nrN_spec h.rise k
  have b := nearR_spec r k
  cases e1 : nrN l k with
  | none =>
    rw [e1] at a
    cases e2 : nearR r k with
    | none => rfl
    | some q =>
      rw [e2] at b
      exact absurd b.2.1 (a q ((h.mem q).2 b.1))
  | some p =>
    rw [e1] at a
    cases e2 : nearR r k with
    | none =>
      rw [e2] at b
      exact absurd a.2.1 (b p ((h.mem p).1 a.1))
    | some q =>
      rw [e2] at b
      have h1 := a.2.2 q ((h.mem q).2 b.1) b.2.1
      have h2 := b.2.2 p ((h.mem p).1 a.1) a.2.1
      rw [nod_mem h.nod ((h.mem p).1 a.1) b.1 (by omega)]
end
end Go.Proofs.YtdjaalkbpdmdgaaGreat
