/-
  Bag: where a key stands in a table that is in order (plain).
-/
import Derived.Test.YtdjaalkbpdmdgaaBg19
import Derived.Test.YtdjaalkbpdmdgaaBg7
namespace Go.Proofs.Ytdjaalkbpdmdgaa
open Go.RowKit
set_option linter.unusedVariables false

theorem cmN_lt (a k : Int) : decide (cmN a k < 0) = decide (a < k) := by
  unfold cmN ltN eqN
  by_cases h : a < k
  · simp [h]
  · by_cases h2 : a = k
    · simp [h2]
    · simp [h, h2]
theorem cmN_eq (a k : Int) : decide (cmN a k = 0) = decide (a = k) := by
  unfold cmN ltN eqN
  by_cases h : a < k
  · have : a ≠ k := by omega
    simp [h, this]
  · by_cases h2 : a = k
    · simp [h2]
    · simp [h, h2]
theorem plN_of {l : List PN} {k : Int} {j : Nat} (h1 : ∀ i p, i < j → l[i]? = some p → p.1 < k) (h2 : ∀ i p, j ≤ i → l[i]? = some p → k ≤ p.1) (hj : j ≤ l.length) : plN l k = j := by
  refine bsF_spec _ j (fun t ht => ?_) (fun t ht => ?_) _ _ _ (by omega) (Nat.zero_le _) hj
  · unfold lessN
    obtain ⟨p, hp⟩ : ∃ p, l[t]? = some p := ⟨_, List.getElem?_eq_getElem (by omega)⟩
    rw [hp]
    show decide (cmN p.1 k < 0) = true
    rw [cmN_lt]
    exact decide_eq_true (h1 t p ht hp)
  · unfold lessN
    cases hp : l[t]? with
    | none => rfl
    | some p =>
      show decide (cmN p.1 k < 0) = false
      rw [cmN_lt]
      exact decide_eq_false (by have := h2 t p ht hp; omega)
theorem pbN_of {l : List PN} {k : Int} {j : Nat} (h : plN l k = j) : pbN l k = match l[j]? with
  | some p => decide (p.1 = k)
  | none => false := by
  unfold pbN
  rw [h]
  cases l[j]? with
  | none => rfl
  | some p => exact cmN_eq _ _
theorem rowsN_at {d m i : Nat} (h : i < m) : (rowsN d m)[i]? = some (((i : Nat) : Int), ((i + d : Nat) : Int)) := by
  unfold rowsN
  rw [List.getElem?_map, List.getElem?_range h]
  rfl
theorem rowsN_pl (d m : Nat) : plN (rowsN d m) ((m : Nat) : Int) = m := by
  refine plN_of (fun i p hi hp => ?_) (fun i p hi hp => ?_) (by rw [rowsN_length]; exact Nat.le_refl _)
  · rw [rowsN_at hi] at hp
    injection hp with hp
    subst hp
    show ((i : Nat) : Int) < m
    omega
  · rw [List.getElem?_eq_none (by rw [rowsN_length]; exact hi)] at hp
    cases hp
theorem rowsN_pb (d m : Nat) : pbN (rowsN d m) ((m : Nat) : Int) = false := by
  rw [pbN_of (rowsN_pl d m), List.getElem?_eq_none (by rw [rowsN_length]; exact Nat.le_refl _)]
theorem rowsN_set (d m : Nat) : tsetN (rowsN d m) ((m : Nat) : Int) ((m + d : Nat) : Int) = rowsN d (m + 1) := by
  unfold tsetN
  rw [rowsN_pb, rowsN_pl]
  simp only [Bool.false_eq_true, ↓reduceIte]
  rw [List.take_of_length_le (by rw [rowsN_length]; exact Nat.le_refl _), List.drop_eq_nil_of_le (by rw [rowsN_length]; exact Nat.le_refl _), List.append_nil]
  unfold rowsN
  rw [List.range_succ, List.map_append]
  rfl

/-- A queue, a stack and a table beside one another. -/
def Three (w0 : World) (gq gs gt : Nat) (lq ls : List Int) (lt : List PN) (w : World) : Prop :=
  ∃ vq vs vt, Sk 65 w0.heap.size w gq 0 vq lq ∧ Sk 64 w0.heap.size w gs 0 vs ls ∧ TbN w0.heap.size w gt vt lt ∧
    (∀ x ∈ skT gq vq, x ∉ skT gs vs ∧ x ∉ skT gt vt) ∧ (∀ x ∈ skT gs vs, x ∉ skT gt vt) ∧ Fr [] w0 w
theorem TbN.base {b0 : Nat} {w : World} {g : Nat} {v : Value} {l : List PN} (h : TbN b0 w g v l) : ∀ x ∈ skT g v, b0 ≤ x := by
  intro x hx
  simp only [skT, List.mem_cons, Option.mem_toList] at hx
  rcases hx with rfl | hx
  · exact h.b
  · exact (h.L.lt x hx).1
theorem TbN.step {b0 : Nat} {w w1 w2 : World} {g : Nat} {v : Value} {l : List PN} (h : TbN b0 w1 g v l) (hf : Fr [] w w1) (hb : w.heap.size ≤ b0) (h2 : Fr (skT g v) w1 w2) : Fr [] w w2 :=
  hf.trans h2 (fun x hx => .inr (Nat.le_trans hb (h.base x hx)))
theorem sk_off {g : Nat} {v : Value} {S : List Nat} (h : ∀ x ∈ skT g v, x ∉ S) : g ∉ S ∧ ∀ k, v.ownBlock = some k → k ∉ S := ⟨h g (by simp [skT]), fun k hk => h k (by simp [skT, hk])⟩
theorem Three.q {w0 : World} {gq gs gt : Nat} {lq ls lq' : List Int} {lt : List PN} {w w' : World} {e : Ending} {r vq vs vt : Value} (hq : Sk 65 w0.heap.size w gq 0 vq lq) (hs : Sk 64 w0.heap.size w gs 0 vs ls) (ht : TbN w0.heap.size w gt vt lt)
    (d1 : ∀ x ∈ skT gq vq, x ∉ skT gs vs ∧ x ∉ skT gt vt) (d2 : ∀ x ∈ skT gs vs, x ∉ skT gt vt) (hf : Fr [] w0 w) (h : SkTo 65 w0.heap.size gq 0 vq lq' r w e w') : e = .returned r ∧ Three w0 gq gs gt lq' ls lt w' := by
  obtain ⟨he, v', k1, k2, k3⟩ := h
  have o1 := sk_off (fun x hx hq' => (d1 x hq').1 hx : ∀ x ∈ skT gs vs, x ∉ skT gq vq)
  have o2 := sk_off (fun x hx hq' => (d1 x hq').2 hx : ∀ x ∈ skT gt vt, x ∉ skT gq vq)
  refine ⟨he, v', vs, vt, k1, hs.fr k2 o1.1 o1.2, ht.fr k2 o2.1 o2.2, fun x hx => ?_, d2, hq.step hf (Nat.le_refl _) k2⟩
  rcases k3 x hx with h | h
  · exact d1 x h
  · exact ⟨fun hs' => by have := hs.lt x hs'; omega, fun ht' => by have := ht.lt x ht'; omega⟩
theorem Three.s {w0 : World} {gq gs gt : Nat} {lq ls ls' : List Int} {lt : List PN} {w w' : World} {e : Ending} {r vq vs vt : Value} (hq : Sk 65 w0.heap.size w gq 0 vq lq) (hs : Sk 64 w0.heap.size w gs 0 vs ls) (ht : TbN w0.heap.size w gt vt lt)
    (d1 : ∀ x ∈ skT gq vq, x ∉ skT gs vs ∧ x ∉ skT gt vt) (d2 : ∀ x ∈ skT gs vs, x ∉ skT gt vt) (hf : Fr [] w0 w) (h : SkTo 64 w0.heap.size gs 0 vs ls' r w e w') : e = .returned r ∧ Three w0 gq gs gt lq ls' lt w' := by
  obtain ⟨he, v', k1, k2, k3⟩ := h
  have o1 := sk_off (fun x hx => (d1 x hx).1 : ∀ x ∈ skT gq vq, x ∉ skT gs vs)
  have o2 := sk_off (fun x hx hs' => d2 x hs' hx : ∀ x ∈ skT gt vt, x ∉ skT gs vs)
  refine ⟨he, vq, v', vt, hq.fr k2 o1.1 o1.2, k1, ht.fr k2 o2.1 o2.2, fun x hx => ⟨fun hs' => ?_, (d1 x hx).2⟩, fun x hx ht' => ?_, hs.step hf (Nat.le_refl _) k2⟩
  · rcases k3 x hs' with h | h
    · exact (d1 x hx).1 h
    · have := hq.lt x hx; omega
  · rcases k3 x hx with h | h
    · exact d2 x h ht'
    · have := ht.lt x ht'; omega
theorem Three.t {w0 : World} {gq gs gt : Nat} {lq ls : List Int} {lt lt' : List PN} {w w' : World} {e : Ending} {r vq vs vt : Value} (hq : Sk 65 w0.heap.size w gq 0 vq lq) (hs : Sk 64 w0.heap.size w gs 0 vs ls) (ht : TbN w0.heap.size w gt vt lt)
    (d1 : ∀ x ∈ skT gq vq, x ∉ skT gs vs ∧ x ∉ skT gt vt) (d2 : ∀ x ∈ skT gs vs, x ∉ skT gt vt) (hf : Fr [] w0 w) (h : TbNTo w0.heap.size gt vt lt' r w e w') : e = .returned r ∧ Three w0 gq gs gt lq ls lt' w' := by
  obtain ⟨he, v', k1, k2, k3⟩ := h
  have o1 := sk_off (fun x hx => (d1 x hx).2 : ∀ x ∈ skT gq vq, x ∉ skT gt vt)
  have o2 := sk_off d2
  refine ⟨he, vq, vs, v', hq.fr k2 o1.1 o1.2, hs.fr k2 o2.1 o2.2, k1, fun x hx => ⟨(d1 x hx).1, fun ht' => ?_⟩, fun x hx ht' => ?_, ht.step hf (Nat.le_refl _) k2⟩
  · rcases k3 x ht' with h | h
    · exact (d1 x hx).2 h
    · have := hq.lt x hx; omega
  · rcases k3 x ht' with h | h
    · exact d2 x hx h
    · have := hs.lt x hx; omega
end Go.Proofs.Ytdjaalkbpdmdgaa
