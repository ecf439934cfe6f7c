/-
  Things in memory side by side, each on blocks of its own.
-/
import Derived.Test.YtdcppdgnekhcgaaGreatDoorLst
namespace Go.Proofs.YtdcppdgnekhcgaaGreatDoor
open Go.RowKit
set_option linter.unusedVariables false

/-- A thing: the blocks it lies on, and what is said of it; it stays as long as those blocks do. -/
structure Th (b0 : Nat) where
  F : List Nat
  P : World → Prop
  st : ∀ {S : List Nat} {w w' : World}, P w → Fr S w w' → (∀ x ∈ F, x ∉ S) → P w'
  lt : ∀ {w : World}, P w → ∀ x ∈ F, b0 ≤ x ∧ x < w.heap.size
/-- Many, all from where w0 ended. -/
structure Sg (w0 : World) (Ts : List (Th w0.heap.size)) (w : World) : Prop where
  ok : ∀ (i : Nat) (t : Th w0.heap.size), Ts[i]? = some t → t.P w
  ap : ∀ (i j : Nat) (s t : Th w0.heap.size), i ≠ j → Ts[i]? = some s → Ts[j]? = some t → ∀ x ∈ s.F, x ∉ t.F
  fr : Fr [] w0 w
section
variable {w0 w w' : World} {Ts : List (Th w0.heap.size)}
theorem Sg.nil (h : Sg w0 Ts w) (hf : Fr [] w w') : Sg w0 Ts w' :=
  ⟨fun i t hi => t.st (h.ok i t hi) hf (by simp), h.ap, h.fr.trans hf (by simp)⟩
theorem Sg.none (w0 : World) : Sg w0 [] w0 := ⟨fun i t hi => by simp at hi, fun i j s t _ hi => by simp at hi, Fr.refl _ _⟩
theorem Sg.take (h : Sg w0 Ts w) (n : Nat) : Sg w0 (Ts.take n) w := by
  have key : ∀ (i : Nat) (t : Th w0.heap.size), (Ts.take n)[i]? = some t → Ts[i]? = some t := fun i t hi => by
    rw [List.getElem?_take] at hi
    split at hi
    · exact hi
    · cases hi
  exact ⟨fun i t hi => h.ok i t (key i t hi), fun i j s t hij hi hj => h.ap i j s t hij (key i s hi) (key j t hj), h.fr⟩
theorem Sg.left {Us : List (Th w0.heap.size)} (h : Sg w0 (Ts ++ Us) w) : Sg w0 Ts w := by
  have := h.take Ts.length
  rwa [List.take_left' rfl] at this
/-- One of them turned. -/
theorem Sg.set {i : Nat} {t t' : Th w0.heap.size} (h : Sg w0 Ts w) (hi : Ts[i]? = some t) (hf : Fr t.F w w') (hP : t'.P w') (hn : ∀ x ∈ t'.F, x ∈ t.F ∨ w.heap.size ≤ x) : Sg w0 (Ts.set i t') w' := by
  have hl : i < Ts.length := (List.getElem?_eq_some_iff.1 hi).1
  have key : ∀ (j : Nat) (s : Th w0.heap.size), (Ts.set i t')[j]? = some s → (j = i ∧ s = t') ∨ (j ≠ i ∧ Ts[j]? = some s) := fun j s hj => by
    by_cases e : j = i
    · subst e
      rw [List.getElem?_set_self hl] at hj
      injection hj with hj
      exact .inl ⟨rfl, hj.symm⟩
    · rw [List.getElem?_set_ne (Ne.symm e)] at hj
      exact .inr ⟨e, hj⟩
  have far : ∀ (j : Nat) (s : Th w0.heap.size), j ≠ i → Ts[j]? = some s → ∀ x ∈ s.F, x ∉ t'.F := fun j s hj hs x hx hx' => by
    rcases hn x hx' with e | e
    · exact h.ap j i s t hj hs hi x hx e
    · have := (s.lt (h.ok j s hs) x hx).2
      omega
  refine ⟨fun j s hj => ?_, fun j k s u hjk hj hk x hx hx' => ?_, h.fr.trans hf (fun x hx => .inr (t.lt (h.ok i t hi) x hx).1)⟩
  · rcases key j s hj with ⟨rfl, rfl⟩ | ⟨hne, hs⟩
    · exact hP
    · exact s.st (h.ok j s hs) hf (fun x hx => h.ap j i s t hne hs hi x hx)
  · rcases key j s hj with ⟨rfl, rfl⟩ | ⟨h1, hs⟩ <;> rcases key k u hk with ⟨rfl, rfl⟩ | ⟨h2, hu⟩
    · exact hjk rfl
    · exact far k u h2 hu x hx' hx
    · exact far j s h1 hs x hx hx'
    · exact h.ap j k s u hjk hs hu x hx hx'
/-- A new one behind them. -/
theorem Sg.push {t : Th w0.heap.size} (h : Sg w0 Ts w) (hf : Fr [] w w') (hP : t.P w') (hn : ∀ x ∈ t.F, w.heap.size ≤ x) : Sg w0 (Ts ++ [t]) w' := by
  have key : ∀ (j : Nat) (s : Th w0.heap.size), (Ts ++ [t])[j]? = some s → (j = Ts.length ∧ s = t) ∨ (j < Ts.length ∧ Ts[j]? = some s) := fun j s hj => by
    by_cases e : j < Ts.length
    · rw [List.getElem?_append_left e] at hj
      exact .inr ⟨e, hj⟩
    · rw [List.getElem?_append_right (by omega)] at hj
      by_cases e2 : j = Ts.length
      · rw [e2, Nat.sub_self] at hj
        exact .inl ⟨e2, by simpa using hj.symm⟩
      · rw [List.getElem?_eq_none (by simp; omega)] at hj
        cases hj
  refine ⟨fun j s hj => ?_, fun j k s u hjk hj hk x hx hx' => ?_, h.fr.trans hf (by simp)⟩
  · rcases key j s hj with ⟨rfl, rfl⟩ | ⟨_, hs⟩
    · exact hP
    · exact s.st (h.ok j s hs) hf (by simp)
  · rcases key j s hj with ⟨rfl, rfl⟩ | ⟨h1, hs⟩ <;> rcases key k u hk with ⟨rfl, rfl⟩ | ⟨h2, hu⟩
    · exact hjk rfl
    · have := (u.lt (h.ok k u hu) x hx').2
      have := hn x hx
      omega
    · have := (s.lt (h.ok j s hs) x hx).2
      have := hn x hx'
      omega
    · exact h.ap j k s u hjk hs hu x hx hx'
end
/-- A block known whole. -/
def thBox (b0 k : Nat) (t : TypeId) (cs : Array Value) : Th b0 :=
  ⟨[k], fun w => Bk w k t cs ∧ b0 ≤ k, fun h hf hS => ⟨h.1.fr hf (hS k (by simp)), h.2⟩, fun h x hx => by
    obtain rfl : x = k := by simpa using hx
    exact ⟨h.2, h.1.lt⟩⟩
theorem Sg.box {w0 w : World} {Ts : List (Th w0.heap.size)} (h : Sg w0 Ts w) (t : TypeId) (cs : Array Value) : Sg w0 (Ts ++ [thBox w0.heap.size w.heap.size t cs]) (w.alloc (.cells cs t)) :=
  h.push ((Fr.refl _ _).alloc _) ⟨Bk.new _ _ _, h.fr.size⟩ (fun x hx => by
    obtain rfl : x = w.heap.size := by simpa [thBox] using hx
    exact Nat.le_refl _)
theorem Sg.bk {w0 w : World} {Ts : List (Th w0.heap.size)} {i k : Nat} {t : TypeId} {cs : Array Value} (h : Sg w0 Ts w) (hi : Ts[i]? = some (thBox w0.heap.size k t cs)) : Bk w k t cs := (h.ok i _ hi).1
end Go.Proofs.YtdcppdgnekhcgaaGreatDoor
