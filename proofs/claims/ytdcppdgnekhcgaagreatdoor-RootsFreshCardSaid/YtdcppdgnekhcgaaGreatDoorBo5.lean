/-
  The Book of middenkept: markInts.
-/
import Derived.Test.YtdcppdgnekhcgaaGreatDoorBo4
import Derived.Deep.CutRange
namespace Go.Proofs.YtdcppdgnekhcgaaGreatDoor
open Go.RowKit
set_option linter.unusedVariables false

theorem bV_snoc (l : List Int) (x : Int) : bV l ++ [.int .i64 x] = bV (l ++ [x]) := by simp [bV]
theorem drop_cons' {α : Type} {l : List α} {k : Nat} {x : α} (h : l[k]? = some x) : l.drop k = x :: l.drop (k + 1) := by
  obtain ⟨h1, h2⟩ := List.getElem?_eq_some_iff.1 h
  rw [List.drop_eq_getElem_cons h1, h2]
/-- What markInts keeps while it goes through the lists. -/
def MkI {w0 : World} (Vs : List (Th w0.heap.size)) (S : BS) (XW : List (Value × List Int)) (K L k : Nat) (wr : World) : Prop :=
  ∃ S' XF XW', S'.g = S.g ∧ S'.deep = S.deep ∧ (∀ p ∈ S.Q, p ∈ S'.Q) ∧ BLk S' XF XW' (XW.drop k) K L ∧ Sg w0 (bkT w0.heap.size S' ++ Vs) wr
section
variable {w0 w w1 w' : World} {Vs : List (Th w0.heap.size)}
/-- The header of the list of kind (thing i, cell j) at a world, for an append. -/
theorem Sg.head {S : BS} {i j n g : Nat} {e : TypeId} {v : Value} {xs : List Value} (h : Sg w0 (bkT w0.heap.size S ++ Vs) w) (hg : S.g = g) (hi : (bkT w0.heap.size S ++ Vs)[i]? = some (thLst w0.heap.size e v xs)) (hn : xs.length = n) (hc : (bookA S)[j]? = some v) :
    ∃ A p, v = .slice A n p ∧ ∀ Z, Fr [] w Z → Lst Z w0.heap.size e 1 (.slice A n p) n xs ∧ Z.cell? ⟨g, j, Option.none⟩ = some (.slice A n p) ∧ g < Z.heap.size := by
  subst hg
  have hL := h.lst hi
  rw [hn] at hL
  obtain ⟨A, p, rfl, _, _⟩ := hL.look
  refine ⟨A, p, rfl, fun Z hf => ⟨hL.fr hf (by simp), ?_, Nat.lt_of_lt_of_le h.book.lt hf.size⟩⟩
  rw [(h.book.fr hf (by simp)).cell]
  exact hc
end
/-- A list that waits on. -/
theorem BLk.keep {S : BS} {XF XW XR : List (Value × List Int)} {x : Value × List Int} {q vW vN vM vD : Value} {m d : Int} {K L : Nat} (h : BLk S XF XW (x :: XR) K L) (hq : (q, x.2) ∈ S.Q) :
    BLk { S with vW := vW, W := S.W ++ [x.1], vN := vN, N := S.N ++ [q], vM := vM, M := S.M ++ [m], vD := vD, D := S.D ++ [d] } XF (XW ++ [x]) XR K L := by
  refine ⟨?_, ?_, h.F, ?_, ?_, ?_, h.r, h.t, h.o, fun i y p hy hp => ?_, ?_, h.l⟩
  · show S.X = _
    rw [h.x]; simp
  · show S.W ++ [x.1] = _
    rw [h.W]; simp
  · show (S.N ++ [q]).length = _
    rw [List.length_append, h.n]; simp
  · show (S.M ++ [m]).length = _
    rw [List.length_append, h.m]; simp
  · show (S.D ++ [d]).length = _
    rw [List.length_append, h.d]; simp
  · have hp : (S.N ++ [q])[i]? = some p := hp
    by_cases e : i < XW.length
    · rw [List.getElem?_append_left e] at hy
      rw [List.getElem?_append_left (by rw [h.n]; exact e)] at hp
      exact h.w i y p hy hp
    · rw [List.getElem?_append_right (by omega)] at hy
      rw [List.getElem?_append_right (by rw [h.n]; omega), h.n] at hp
      by_cases e2 : i - XW.length = 0
      · rw [e2] at hy hp
        have hy : x = y := by simpa using hy
        have hp : q = p := by simpa using hp
        rw [← hy, ← hp]
        exact hq
      · rw [List.getElem?_eq_none (by simp; omega)] at hy
        cases hy
  · have := h.k
    simp only [List.length_append, List.length_cons, List.length_nil] at this ⊢
    show S.O.length + _ + _ ≤ K
    omega
/-- A list that was written full: out, told, to be laid on. -/
theorem BLk.full {S : BS} {XF XW XR : List (Value × List Int)} {x : Value × List Int} {q vO vT vF vR : Value} {c : List Int} {m : Int} {FQ : List Nat} {K L : Nat} (h : BLk S XF XW (x :: XR) K L) (hc : c.length = x.2.length) :
    BLk { S with X := (XF ++ [(x.1, c)]) ++ XW ++ XR, vO := vO, O := S.O ++ [x.1], vT := vT, T := S.T ++ [q], vF := vF, F := S.F ++ [x.1], vR := vR, R := S.R ++ [m], Q := S.Q ++ [(q, c)], FQ := FQ } (XF ++ [(x.1, c)]) XW XR K L := by
  refine ⟨rfl, h.W, ?_, h.n, h.m, h.d, ?_, ?_, fun i p r hp hr => ?_, fun i y p hy hp => List.mem_append_left _ (h.w i y p hy hp), ?_, fun y hy => ?_⟩
  · show S.F ++ [x.1] = _
    rw [h.F]; simp
  · show (S.R ++ [m]).length = _
    rw [List.length_append, h.r]; simp
  · show (S.T ++ [q]).length = (S.O ++ [x.1]).length
    rw [List.length_append, List.length_append, h.t]; rfl
  · have hp : (S.O ++ [x.1])[i]? = some p := hp
    have hr : (S.T ++ [q])[i]? = some r := hr
    by_cases e : i < S.O.length
    · rw [List.getElem?_append_left e] at hp
      rw [List.getElem?_append_left (by rw [h.t]; exact e)] at hr
      obtain ⟨c', h1, h2⟩ := h.o i p r hp hr
      exact ⟨c', List.mem_append_left _ h1, h2.imp (fun k => List.mem_append_left _ k) (fun k => List.mem_append_left _ k)⟩
    · rw [List.getElem?_append_right (by omega)] at hp
      rw [List.getElem?_append_right (by rw [h.t]; omega), h.t] at hr
      by_cases e2 : i - S.O.length = 0
      · rw [e2] at hp hr
        have hp : x.1 = p := by simpa using hp
        have hr : q = r := by simpa using hr
        rw [← hp, ← hr]
        exact ⟨c, List.mem_append_right _ (by simp), .inr (List.mem_append_right _ (by simp))⟩
      · rw [List.getElem?_eq_none (by simp; omega)] at hp
        cases hp
  · have := h.k
    simp only [List.length_append, List.length_cons, List.length_nil] at this ⊢
    omega
  · have hy : y ∈ XF ++ [(x.1, c)] ++ XW ++ XR := hy
    simp only [List.mem_append, List.mem_cons, List.not_mem_nil, or_false] at hy
    rcases hy with ((hy | rfl) | hy) | hy
    · exact h.l y (by rw [h.x]; simp [hy])
    · show c.length ≤ L
      rw [hc]
      exact h.l x (by rw [h.x]; simp)
    · exact h.l y (by rw [h.x]; simp [hy])
    · exact h.l y (by rw [h.x]; simp [hy])
end Go.Proofs.YtdcppdgnekhcgaaGreatDoor
