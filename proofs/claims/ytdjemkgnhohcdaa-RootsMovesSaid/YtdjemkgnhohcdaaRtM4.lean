/-
  Roots: lists of lists as they are gathered; a scene for RootsMoves.
-/
import Derived.Test.YtdjemkgnhohcdaaRtM3
import Derived.Test.YtdjemkgnhohcdaaRtF1
namespace Go.Proofs.Ytdjemkgnhohcdaa
open Go.RowKit
set_option linter.unusedVariables false

/-- What has been gathered: the first k lists. -/
def Tq (f : Nat → List Int) (w : World) (v : Value) (k : Nat) (wr : World) : Prop :=
  ∃ vs : List Value, Lst wr w.heap.size 31 1 v k vs ∧ vs.length = k ∧ (∀ (i : Nat), i < k → ∃ u, vs[i]? = some u ∧ Lst wr w.heap.size 3 1 u (f i).length (iV (f i))) ∧ Fr [] w wr
theorem Tq.fr {f : Nat → List Int} {w wr wr' : World} {v : Value} {k : Nat} (h : Tq f w v k wr) (hf : Fr [] wr wr') : Tq f w v k wr' := by
  obtain ⟨vs, h1, h2, h3, h4⟩ := h
  refine ⟨vs, h1.fr hf (by simp), h2, fun i hi => ?_, h4.trans hf (by simp)⟩
  obtain ⟨u, k1, k2⟩ := h3 i hi
  exact ⟨u, k1, k2.fr hf (by simp)⟩
theorem Tq.frm {f : Nat → List Int} {w wr : World} {v : Value} {k : Nat} (h : Tq f w v k wr) : Fr [] w wr := by
  obtain ⟨vs, h1, h2, h3, h4⟩ := h
  exact h4
theorem Tq.snoc {f : Nat → List Int} {w wi w3 : World} {v v2 : Value} {k : Nat} {vs : List Value} {A5 : Option Addr} {c5 : Nat} (o : Obj) (h1 : Lst wi w.heap.size 31 1 v k vs) (h2 : vs.length = k) (h3 : ∀ (i : Nat), i < k → ∃ u, vs[i]? = some u ∧ Lst wi w.heap.size 3 1 u (f i).length (iV (f i))) (h4 : Fr [] w wi)
    (h5 : Lst wi w.heap.size 3 1 (.slice A5 (f k).length c5) (f k).length (iV (f k))) (hown : Lst w3 w.heap.size 31 1 v2 (k + 1) (vs ++ [.slice A5 (f k).length c5])) (hg : (wi.alloc o).grownBy w3 v.ownBlock) : Tq f w v2 (k + 1) w3 := by
  have hf : Fr v.ownBlock.toList wi w3 := ((Fr.refl _ wi).alloc o).grown hg (fun j hj => .inl (by simp [hj]))
  have off : ∀ (u : Value) (n : Nat) (xs : List Value), Lst wi w.heap.size 3 1 u n xs → Lst w3 w.heap.size 3 1 u n xs := fun u n xs hu => hu.fr hf (fun q hq hx => by
    obtain ⟨cs, hb⟩ := h1.bk (k := q) (by simpa using hx)
    exact hu.ne_bk hb (by decide) q hq rfl)
  refine ⟨_, hown, by rw [List.length_append, h2]; rfl, fun i hi => ?_, h4.trans hf (fun x hx => .inr (h1.lt x (by simpa using hx)).1)⟩
  by_cases e : i = k
  · subst e
    exact ⟨_, by rw [List.getElem?_append_right (by omega)]; simp [h2], off _ _ _ h5⟩
  · obtain ⟨u, k1, k2⟩ := h3 i (by omega)
    exact ⟨u, by rw [List.getElem?_append_left (by omega)]; exact k1, off _ _ _ k2⟩
theorem Tq.ll {f : Nat → List Int} {w wr : World} {v : Value} {k : Nat} (h : Tq f w v k wr) : LL w.heap.size wr.heap.size wr v ((List.range k).map f) := by
  obtain ⟨vs, h1, h2, h3, h4⟩ := h
  refine ⟨vs, by simpa using h1, by simpa using h2, fun i l hl => ?_, fun q hq => (h1.lt q hq).2⟩
  have hi : i < k := by have := (List.getElem?_eq_some_iff.1 hl).1; simpa using this
  obtain ⟨u, k1, k2⟩ := h3 i hi
  rw [List.getElem?_map, List.getElem?_range hi] at hl
  have hl : f i = l := by simpa using hl
  subst hl
  exact ⟨u, k1, k2, fun q hq => (k2.lt q hq).2⟩

/-- Roots that stay on their blocks, what was handed out of them before, and the frames of before. -/
def Ms (w1 : World) (g : Nat) (F : List Nat) (lo h5 h6 : Nat) (v3 v4 vf : Value) (was hs : List Int) (L : List (List Int)) (a : RA) (w : World) : Prop :=
  Sn w1 g a F w ∧ (∀ x ∈ F, x < lo) ∧ NL lo h5 w v3 was ∧ NL lo h5 w v4 hs ∧ LL h5 h6 w vf L ∧ h6 ≤ w.heap.size ∧ lo ≤ h5 ∧ h5 ≤ h6 ∧ w1.heap.size ≤ lo
section
variable {w1 w w' : World} {g lo h5 h6 : Nat} {F : List Nat} {v3 v4 vf : Value} {was hs : List Int} {L : List (List Int)} {a a' : RA}
theorem Ms.to {S : List Nat} (h : Ms w1 g F lo h5 h6 v3 v4 vf was hs L a w) (hf : Fr S w w') (hr : RS w1.heap.size w' g a' F) (hS : ∀ x ∈ S, x ∈ F ∨ h6 ≤ x) : Ms w1 g F lo h5 h6 v3 v4 vf was hs L a' w' := by
  obtain ⟨k1, k2, k3, k4, k5, k6, k7, k8, k9⟩ := h
  have hlow := k1.rs.base
  have hsz := k1.fr.size
  refine ⟨⟨hr, k1.fr.trans hf (fun x hx => .inr ?_)⟩, k2, k3.fr hf (fun x hx => ?_), k4.fr hf (fun x hx => ?_), k5.fr hf (fun x hx => ?_), Nat.le_trans k6 hf.size, k7, k8, k9⟩
  · rcases hS x hx with e | e
    · exact hlow x e
    · omega
  · rcases hS x hx with e | e
    · exact .inl (k2 x e)
    · exact .inr (by omega)
  · rcases hS x hx with e | e
    · exact .inl (k2 x e)
    · exact .inr (by omega)
  · rcases hS x hx with e | e
    · exact .inl (by have := k2 x e; omega)
    · exact .inr e
theorem Ms.nil (h : Ms w1 g F lo h5 h6 v3 v4 vf was hs L a w) (hf : Fr [] w w') : Ms w1 g F lo h5 h6 v3 v4 vf was hs L a w' := h.to hf (h.1.rs.nil hf) (by simp)
theorem Ms.rs (h : Ms w1 g F lo h5 h6 v3 v4 vf was hs L a w) : RS w1.heap.size w g a F := h.1.rs
theorem Ms.frm (h : Ms w1 g F lo h5 h6 v3 v4 vf was hs L a w) : Fr [] w1 w := h.1.fr
end
theorem pos_take_in {l : List Int} {k : Nat} {x : Int} (h : l[k]? = some x) (hx : 0 < x) : pos (l.take (k + 1)) = pos (l.take k) ++ [x] := by
  obtain ⟨h1, h2⟩ := List.getElem?_eq_some_iff.1 h
  rw [List.take_succ_eq_append_getElem h1, h2, pos_append, pos_cons, if_pos hx]
  rfl
theorem pos_take_out {l : List Int} {k : Nat} {x : Int} (h : l[k]? = some x) (hx : ¬ 0 < x) : pos (l.take (k + 1)) = pos (l.take k) := by
  obtain ⟨h1, h2⟩ := List.getElem?_eq_some_iff.1 h
  rw [List.take_succ_eq_append_getElem h1, h2, pos_append, pos_cons, if_neg hx]
  simp [pos]
theorem pos_take_end {l : List Int} {k : Nat} (h : l.length ≤ k) : pos (l.take (k + 1)) = pos (l.take k) := by
  rw [List.take_of_length_le h, List.take_of_length_le (by omega)]
theorem pos_len (l : List Int) : (pos l).length ≤ l.length := List.length_filter_le _ _
end Go.Proofs.Ytdjemkgnhohcdaa
