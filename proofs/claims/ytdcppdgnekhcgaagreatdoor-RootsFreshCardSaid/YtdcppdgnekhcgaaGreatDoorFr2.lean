/-
  Roots: All in the scene of RootsFresh; how long its lists are.
-/
import Derived.Test.YtdcppdgnekhcgaaGreatDoorFr1
namespace Go.Proofs.YtdcppdgnekhcgaaGreatDoor
open Go.RowKit
set_option maxRecDepth 100000
set_option linter.unusedVariables false

theorem Sg.start {w0 w : World} {t : Th w0.heap.size} {gb : Nat} (hP : t.P w) (hB : Bk w gb 43 (bookA (S0 gb))) (hgb : w0.heap.size ≤ gb) (hne : gb ∉ t.F) (hf : Fr [] w0 w) : Sg w0 (bkT w0.heap.size (S0 gb) ++ [t]) w := by
  have key : ∀ (i : Nat) (s : Th w0.heap.size), (bkT w0.heap.size (S0 gb) ++ [t])[i]? = some s → s.P w ∧ (s.F = [] ∨ (i = 0 ∧ s.F = [gb]) ∨ (i = 11 ∧ s = t)) := fun i s hi => by
    have hlt : i < 12 := by
      have := (List.getElem?_eq_some_iff.1 hi).1
      simpa [bkT_len] using this
    have h12 : i = 0 ∨ i = 1 ∨ i = 2 ∨ i = 3 ∨ i = 4 ∨ i = 5 ∨ i = 6 ∨ i = 7 ∨ i = 8 ∨ i = 9 ∨ i = 10 ∨ i = 11 := by omega
    rcases h12 with rfl | rfl | rfl | rfl | rfl | rfl | rfl | rfl | rfl | rfl | rfl | rfl
    · have hi := Option.some.inj hi; subst hi; exact ⟨⟨hB, hgb⟩, .inr (.inl ⟨rfl, rfl⟩)⟩
    · have hi := Option.some.inj hi; subst hi; exact ⟨Lst.nil _ _ _ _, .inl rfl⟩
    · have hi := Option.some.inj hi; subst hi; exact ⟨Lst.nil _ _ _ _, .inl rfl⟩
    · have hi := Option.some.inj hi; subst hi; exact ⟨Lst.nil _ _ _ _, .inl rfl⟩
    · have hi := Option.some.inj hi; subst hi; exact ⟨Lst.nil _ _ _ _, .inl rfl⟩
    · have hi := Option.some.inj hi; subst hi; exact ⟨Lst.nil _ _ _ _, .inl rfl⟩
    · have hi := Option.some.inj hi; subst hi; exact ⟨Lst.nil _ _ _ _, .inl rfl⟩
    · have hi := Option.some.inj hi; subst hi; exact ⟨Lst.nil _ _ _ _, .inl rfl⟩
    · have hi := Option.some.inj hi; subst hi; exact ⟨Lst.nil _ _ _ _, .inl rfl⟩
    · have hi := Option.some.inj hi; subst hi; exact ⟨⟨fun q hq => by simp [S0] at hq, fun x hx => by simp [S0] at hx⟩, .inl rfl⟩
    · have hi := Option.some.inj hi; subst hi; exact ⟨⟨fun q hq => by simp [S0] at hq, List.Pairwise.nil⟩, .inl rfl⟩
    · have hi := Option.some.inj hi; subst hi; exact ⟨hP, .inr (.inr ⟨rfl, rfl⟩)⟩
  refine ⟨fun i s hi => (key i s hi).1, fun i j s u hij hs hu x hx hx' => ?_, hf⟩
  rcases (key i s hs).2 with e | ⟨e1, e⟩ | ⟨e1, e⟩
  · rw [e] at hx; simp at hx
  · rcases (key j u hu).2 with f | ⟨f1, f⟩ | ⟨f1, f⟩
    · rw [f] at hx'; simp at hx'
    · omega
    · subst f
      rw [e] at hx
      obtain rfl : x = gb := by simpa using hx
      exact hne hx'
  · rcases (key j u hu).2 with f | ⟨f1, f⟩ | ⟨f1, f⟩
    · rw [f] at hx'; simp at hx'
    · subst e
      rw [f] at hx'
      obtain rfl : x = gb := by simpa using hx'
      exact hne hx
    · omega
theorem Sg.setpush {w0 w w' : World} {Ts : List (Th w0.heap.size)} {i : Nat} {t t' u : Th w0.heap.size} (h : Sg w0 Ts w) (hi : Ts[i]? = some t) (hf : Fr t.F w w') (hP : t'.P w') (hn : ∀ x ∈ t'.F, x ∈ t.F) (hu : u.P w') (hun : ∀ x ∈ u.F, w.heap.size ≤ x) :
    Sg w0 (Ts.set i t' ++ [u]) w' := by
  have h1 := h.set hi hf hP (fun x hx => .inl (hn x hx))
  have low : ∀ (j : Nat) (s : Th w0.heap.size), (Ts.set i t')[j]? = some s → ∀ x ∈ s.F, x < w.heap.size := fun j s hj x hx => by
    by_cases e : i = j
    · subst e
      rw [List.getElem?_set_self (List.getElem?_eq_some_iff.1 hi).1] at hj
      cases hj
      exact (t.lt (h.ok i t hi) x (hn x hx)).2
    · rw [List.getElem?_set_ne e] at hj
      exact (s.lt (h.ok j s hj) x hx).2
  have key : ∀ (j : Nat) (s : Th w0.heap.size), (Ts.set i t' ++ [u])[j]? = some s → (j = (Ts.set i t').length ∧ s = u) ∨ (j < (Ts.set i t').length ∧ (Ts.set i t')[j]? = some s) := fun j s hj => by
    by_cases e : j < (Ts.set i t').length
    · rw [List.getElem?_append_left e] at hj
      exact .inr ⟨e, hj⟩
    · rw [List.getElem?_append_right (by omega)] at hj
      by_cases e2 : j = (Ts.set i t').length
      · rw [e2, Nat.sub_self] at hj
        exact .inl ⟨e2, by simpa using hj.symm⟩
      · rw [List.getElem?_eq_none (by simp at e e2 ⊢; omega)] at hj
        cases hj
  refine ⟨fun j s hj => ?_, fun j k s v hjk hs hv x hx hx' => ?_, h1.fr⟩
  · rcases key j s hj with ⟨_, rfl⟩ | ⟨_, e⟩
    · exact hu
    · exact h1.ok j s e
  · rcases key j s hs with ⟨e1, rfl⟩ | ⟨_, e1⟩ <;> rcases key k v hv with ⟨e2, rfl⟩ | ⟨_, e2⟩
    · omega
    · have := low k v e2 x hx'
      have := hun x hx
      omega
    · have := low j s e1 x hx
      have := hun x hx'
      omega
    · exact h1.ap j k s v hjk e1 e2 x hx hx'
theorem Fsh.all {w0 : World} {gb g : Nat} {a : RA} {K : Nat} {S : BS} {XW : List (Value × List Int)} {F : List Nat} {Us : List (Th w0.heap.size)} {wr : World} (H : Fsh w0 gb g a K S XW F Us wr) (hq : a.q.length ≤ 5000000000000) :
    Calls Tryz.prog 12 #[.pointer (some ⟨g, 0, none⟩)] wr fun e w' => ∃ A c, e = .returned (.slice A (rootsA a).length c) ∧ Fsh w0 gb g a K S XW F (Us ++ [thLst w0.heap.size 3 (.slice A (rootsA a).length c) (bV (rootsA a))]) w' := by
  refine (all_any H.rs H.sg.fr.size hq).mono ?_
  rintro e w' ⟨v, rfl, hL, hR, hf⟩
  obtain ⟨A, c, rfl, _, _⟩ := hL.look
  refine ⟨A, c, rfl, H.eg, H.ed, H.bl, ?_⟩
  have := H.sg.setpush (i := 11) (t := thRS w0.heap.size g a F) (t' := thRS w0.heap.size g a F) (u := thLst w0.heap.size 3 (.slice A (rootsA a).length c) (bV (rootsA a))) rfl hf hR (fun x hx => hx) (by
    show Lst w' w0.heap.size 3 1 _ (bV (rootsA a)).length _
    rw [bV_len]
    exact hL.mono H.sg.fr.size) (fun x hx => (hL.lt x (by simpa [thLst] using hx)).1)
  have e1 : (bkT w0.heap.size S ++ (thRS w0.heap.size g a F :: Us)).set 11 (thRS w0.heap.size g a F) = bkT w0.heap.size S ++ (thRS w0.heap.size g a F :: Us) := rfl
  rw [e1, List.append_assoc] at this
  exact this
theorem sumL_len : ∀ (L : List (List Int)), (∀ l ∈ L, 1 ≤ l.length) → L.length ≤ sumL L
  | [], _ => by simp
  | l :: L, h => by
    have h1 := h l (by simp)
    have h2 := sumL_len L (fun x hx => h x (by simp [hx]))
    simp only [sumL, List.map_cons, List.sum_cons, List.length_cons] at h2 ⊢
    omega
theorem rs_bounds {b0 : Nat} {w : World} {g : Nat} {a : RA} {F : List Nat} (h : RS b0 w g a F) (hq : a.q.length ≤ 2300000000000) : (rootsA a).length ≤ 4000000000000 ∧ (handlesA a).length ≤ 4000000000000 ∧ a.q.length ≤ 4000000000000 ∧ (framesA a 0).length ≤ 4000000000000 := by
  have h1 := rootsA_len a
  obtain ⟨R, hR, rfl, rfl⟩ := h
  have h2 := sizeA_le hR
  have hq : R.q.length ≤ 2300000000000 := hq
  have h5 := hR.ok.2.2.2.2
  have h4 := hR.ok.2.2.2.1
  refine ⟨by omega, ?_, by show R.q.length ≤ _; omega, ?_⟩
  · unfold handlesA
    rw [List.length_map]
    show R.hs.length ≤ _
    omega
  · unfold framesA
    split
    · simp
    · rename_i hi
      rw [List.length_map]
      have hi : inT R.abs 0 = true := by simpa using hi
      obtain ⟨A, t, B, e1, e2, _, _⟩ := inT_split hi
      rw [abs_at e1 e2]
      have ht : t ∈ R.ths := by rw [e1]; simp
      have r1 := hR.room t ht
      have r2 := sumL_len t.ls (fun l hl => by
        unfold Thr.ls at hl
        obtain ⟨f, hf, rfl⟩ := List.mem_map.1 hl
        exact hR.one t ht f hf)
      omega
end Go.Proofs.YtdcppdgnekhcgaaGreatDoor
