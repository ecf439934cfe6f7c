/-
  Roots: tops.
-/
import Derived.Test.YtdcppdgnekhcgaaGreatDoorRtS14
namespace Go.Proofs.YtdcppdgnekhcgaaGreatDoor
open Go.RowKit
set_option maxRecDepth 100000
set_option linter.unusedVariables false

/-- What tops has gathered of the first k threads. -/
def Tp (a : RA) (w : World) (v : Value) (k : Nat) (wr : World) : Prop :=
  ∃ vs : List Value, Lst wr w.heap.size 29 1 v k vs ∧ vs.length = k ∧ (∀ (i : Nat), i < k → ∃ u, vs[i]? = some u ∧ Lst wr w.heap.size 3 1 u (topOf a i).length (iV (topOf a i))) ∧ Fr [] w wr
theorem Tp.fr {a : RA} {w wr wr' : World} {v : Value} {k : Nat} (h : Tp a w v k wr) (hf : Fr [] wr wr') : Tp a w v k wr' := by
  obtain ⟨vs, h1, h2, h3, h4⟩ := h
  refine ⟨vs, h1.fr hf (by simp), h2, fun i hi => ?_, h4.trans hf (by simp)⟩
  obtain ⟨u, k1, k2⟩ := h3 i hi
  exact ⟨u, k1, k2.fr hf (by simp)⟩
theorem topOf_len {b0 : Nat} {w : World} {g : Nat} {a : RA} {F : List Nat} (h : RS b0 w g a F) (t : Nat) : (topOf a t).length ≤ 4096 := by
  obtain ⟨R, hR, rfl, rfl⟩ := h
  unfold topOf
  split
  · rename_i hi
    obtain ⟨A, th, B, hth, he, _, _⟩ := inT_split hi
    rw [abs_at hth he]
    have ht : th ∈ R.ths := by rw [hth]; simp
    by_cases h0 : th.ls = []
    · rw [h0]; simp
    · obtain ⟨C, x, e⟩ := last_split h0
      have h1 : sumL th.ls ≤ 4096 := Nat.le_trans (hR.room th ht) hR.ok.2.2.2.1
      rw [e] at h1 ⊢
      unfold sumL at h1
      simp at h1 ⊢
      omega
  · simp

theorem Tp.snoc {a : RA} {w wi w3 : World} {v v2 : Value} {k : Nat} {vs : List Value} {A5 : Option Addr} {c5 : Nat} (o : Obj) (h1 : Lst wi w.heap.size 29 1 v k vs) (h2 : vs.length = k) (h3 : ∀ (i : Nat), i < k → ∃ u, vs[i]? = some u ∧ Lst wi w.heap.size 3 1 u (topOf a i).length (iV (topOf a i))) (h4 : Fr [] w wi)
    (h5 : Lst wi w.heap.size 3 1 (.slice A5 (topOf a k).length c5) (topOf a k).length (iV (topOf a k))) (hown : Lst w3 w.heap.size 29 1 v2 (k + 1) (vs ++ [.slice A5 (topOf a k).length c5])) (hg : (wi.alloc o).grownBy w3 v.ownBlock) : Tp a w v2 (k + 1) w3 := by
  have hf : Fr v.ownBlock.toList wi w3 := ((Fr.refl _ wi).alloc o).grown hg (fun j hj => .inl (by simp [hj]))
  have off : ∀ (u : Value) (n : Nat) (xs : List Value), Lst wi w.heap.size 3 1 u n xs → Lst w3 w.heap.size 3 1 u n xs := fun u n xs hu => hu.fr hf (fun q hq hx => by
    obtain ⟨cs, hb⟩ := h1.bk (k := q) (by simpa using hx)
    exact hu.ne_bk hb (by decide) q hq rfl)
  refine ⟨_, hown, by rw [List.length_append, h2]; rfl, fun i hi => ?_, h4.trans hf (fun x hx => .inr (h1.lt x (by simpa using hx)).1)⟩
  by_cases e : i = k
  · subst e
    exact ⟨_, by rw [List.getElem?_append_right (by omega)]; simp [h2], off _ _ _ h5⟩
  · obtain ⟨u, k1, k2⟩ := h3 i (by omega)
    exact ⟨u, by rw [List.getElem?_append_left (by omega)]; exact k1, off _ _ _ k2⟩

end Go.Proofs.YtdcppdgnekhcgaaGreatDoor
