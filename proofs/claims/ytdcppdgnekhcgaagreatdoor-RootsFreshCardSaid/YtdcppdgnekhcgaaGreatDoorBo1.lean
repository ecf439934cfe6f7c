/-
  The Book of middenkept: its things side by side.
-/
import Derived.Test.YtdcppdgnekhcgaaGreatDoorBgT1
namespace Go.Proofs.YtdcppdgnekhcgaaGreatDoor
open Go.RowKit
set_option linter.unusedVariables false

def bV (l : List Int) : List Value := l.map (Value.int .i64)
theorem bV_at {l : List Int} {i : Nat} {x : Int} (h : l[i]? = some x) : (bV l)[i]? = some (.int .i64 x) := by unfold bV; rw [List.getElem?_map, h]; rfl
theorem bV_len (l : List Int) : (bV l).length = l.length := by simp [bV]
/-- A list on a block of its own. -/
def thLst (b0 : Nat) (e : TypeId) (v : Value) (xs : List Value) : Th b0 :=
  ⟨v.ownBlock.toList, fun w => Lst w b0 e 1 v xs.length xs, fun h hf hS => h.fr hf (fun k hk => hS k (by simp [hk])), fun h x hx => h.lt x (by simpa using hx)⟩
def thNil (b0 : Nat) : Th b0 := ⟨[], fun _ => True, fun h _ _ => h, fun _ x hx => by simp at hx⟩
/-- A value that reads as these numbers. -/
def RdV (w : World) (v : Value) (l : List Int) : Prop := ∃ A c, v = .slice A l.length c ∧ RdI w A l
theorem RdV.fr {w w' : World} {v : Value} {l : List Int} {S : List Nat} (h : RdV w v l) (hf : Fr S w w') (hS : ∀ k, v.ownBlock = some k → k ∉ S) : RdV w' v l := by
  obtain ⟨A, c, rfl, hR⟩ := h
  exact ⟨A, c, rfl, hR.fr hf (fun a ha => hS a.block (by subst ha; simp [Value.ownBlock]))⟩
theorem Lst.rdv {w : World} {b0 : Nat} {e : TypeId} {v : Value} {l : List Int} (h : Lst w b0 e 1 v l.length (bV l)) : RdV w v l := by
  obtain ⟨A, cp, rfl, h1, h2⟩ := h.look
  refine ⟨A, cp, rfl, by unfold maxLen at h2; omega, fun h0 => ?_⟩
  obtain ⟨g, off, cap, hv, _, hg, _, _, _, _, hc⟩ := h.form (by omega)
  injection hv with hv1 _ _
  exact ⟨g, off, hv1, hg, fun i x hx => hc i _ (bV_at hx)⟩
/-- What is only read from now on. -/
def thRO (b0 : Nat) (Q : List (Value × List Int)) (F : List Nat) : Th b0 :=
  ⟨F, fun w => (∀ q ∈ Q, RdV w q.1 q.2 ∧ ∀ k, q.1.ownBlock = some k → k ∈ F) ∧ ∀ x ∈ F, b0 ≤ x ∧ x < w.heap.size,
    fun h hf hS => ⟨fun q hq => ⟨(h.1 q hq).1.fr hf (fun k hk => hS k ((h.1 q hq).2 k hk)), (h.1 q hq).2⟩, fun x hx => ⟨(h.2 x hx).1, Nat.lt_of_lt_of_le (h.2 x hx).2 hf.size⟩⟩, fun h => h.2⟩
def xF (X : List (Value × List Int)) : List Nat := X.flatMap (fun x => x.1.ownBlock.toList)
theorem mem_xF {X : List (Value × List Int)} {k : Nat} : k ∈ xF X ↔ ∃ x ∈ X, x.1.ownBlock = some k := by simp [xF]
/-- What is written into yet: each list on a block of its own. -/
def thWR (b0 : Nat) (X : List (Value × List Int)) : Th b0 :=
  ⟨xF X, fun w => (∀ x ∈ X, Lst w b0 3 1 x.1 x.2.length (bV x.2)) ∧ X.Pairwise (fun (x y : Value × List Int) => ∀ k : Nat, x.1.ownBlock = some k → y.1.ownBlock ≠ some k),
    fun h hf hS => ⟨fun x hx => (h.1 x hx).fr hf (fun k hk => hS k (mem_xF.2 ⟨x, hx, hk⟩)), h.2⟩, fun h k hk => by
      obtain ⟨x, hx, hb⟩ := mem_xF.1 hk
      exact (h.1 x hx).lt k hb⟩

/-- What a book holds. -/
structure BS where
  g : Nat
  turn : Int
  deep : Int
  seen : Int
  vO : Value
  vT : Value
  vW : Value
  vN : Value
  vF : Value
  vM : Value
  vD : Value
  vR : Value
  O : List Value
  T : List Value
  W : List Value
  N : List Value
  F : List Value
  M : List Int
  D : List Int
  R : List Int
  Q : List (Value × List Int)
  FQ : List Nat
  X : List (Value × List Int)
def bookA (S : BS) : Array Value := #[.bool false, .bool false, .int .i64 S.turn, .int .i64 S.deep, .slice none 0 0, .slice none 0 0, .slice none 0 0, .slice none 0 0, .slice none 0 0, .slice none 0 0, .slice none 0 0, .slice none 0 0, .int .i64 0, S.vO, S.vT, S.vW, S.vN, S.vF, S.vM, S.vD, S.vR, .int .i64 S.seen, .slice none 0 0, .slice none 0 0, .slice none 0 0, .slice none 0 0, .slice none 0 0, .slice none 0 0, .slice none 0 0, .slice none 0 0, .int .i64 0, .slice none 0 0, .slice none 0 0, .slice none 0 0, .slice none 0 0, .slice none 0 0, .slice none 0 0, .slice none 0 0, .slice none 0 0, .int .i64 0, .slice none 0 0, .slice none 0 0, .slice none 0 0, .slice none 0 0, .slice none 0 0, .slice none 0 0, .slice none 0 0, .slice none 0 0, .int .i64 0, .slice none 0 0, .slice none 0 0, .slice none 0 0, .slice none 0 0, .slice none 0 0, .slice none 0 0, .slice none 0 0, .slice none 0 0, .int .i64 0, .slice none 0 0, .slice none 0 0, .slice none 0 0, .slice none 0 0, .slice none 0 0, .slice none 0 0, .slice none 0 0, .slice none 0 0, .int .i64 0, .slice none 0 0, .slice none 0 0, .slice none 0 0, .slice none 0 0, .slice none 0 0, .slice none 0 0, .slice none 0 0, .slice none 0 0, .int .i64 0, .slice none 0 0, .slice none 0 0, .slice none 0 0, .slice none 0 0, .slice none 0 0, .slice none 0 0, .slice none 0 0, .slice none 0 0, .int .i64 0, .slice none 0 0, .slice none 0 0, .slice none 0 0, .slice none 0 0, .slice none 0 0, .slice none 0 0, .slice none 0 0, .slice none 0 0, .int .i64 0, .slice none 0 0, .slice none 0 0, .slice none 0 0, .slice none 0 0, .slice none 0 0, .slice none 0 0, .slice none 0 0, .slice none 0 0, .int .i64 0, .slice none 0 0, .slice none 0 0, .slice none 0 0, .slice none 0 0, .slice none 0 0, .slice none 0 0, .slice none 0 0, .slice none 0 0, .int .i64 0, .slice none 0 0, .slice none 0 0, .slice none 0 0, .slice none 0 0, .slice none 0 0, .slice none 0 0, .slice none 0 0, .slice none 0 0, .int .i64 0]
def bkT (b0 : Nat) (S : BS) : List (Th b0) :=
  [thBox b0 S.g 43 (bookA S), thLst b0 29 S.vO S.O, thLst b0 29 S.vT S.T, thLst b0 29 S.vW S.W, thLst b0 29 S.vN S.N, thLst b0 29 S.vF S.F,
   thLst b0 3 S.vM (bV S.M), thLst b0 3 S.vD (bV S.D), thLst b0 3 S.vR (bV S.R), thRO b0 S.Q S.FQ, thWR b0 S.X]
theorem bkT_len (b0 : Nat) (S : BS) : (bkT b0 S).length = 11 := rfl

section
variable {w0 w w' : World} {Ts : List (Th w0.heap.size)}
/-- A list appended to. -/
theorem Sg.app {i : Nat} {e : TypeId} {v v' : Value} {xs ys : List Value} {n : Nat} (h : Sg w0 Ts w) (hi : Ts[i]? = some (thLst w0.heap.size e v xs)) (hn : n = (xs ++ ys).length) (hL : Lst w' w0.heap.size e 1 v' n (xs ++ ys)) (hf : Fr v.ownBlock.toList w w')
    (ho : ∀ k, v'.ownBlock = some k → v.ownBlock = some k ∨ w.heap.size ≤ k) : Sg w0 (Ts.set i (thLst w0.heap.size e v' (xs ++ ys))) w' :=
  h.set hi hf (by subst hn; exact hL) (fun x hx => by
    have hx : v'.ownBlock = some x := by simpa [thLst] using hx
    exact (ho x hx).imp (fun e => by simp [thLst, e]) id)
theorem Sg.put {i g j : Nat} {t : TypeId} {cs cs' : Array Value} {u : Value} (h : Sg w0 Ts w) (hi : Ts[i]? = some (thBox w0.heap.size g t cs)) (hc : cs.setIfInBounds j u = cs') : Sg w0 (Ts.set i (thBox w0.heap.size g t cs')) (w.setCell ⟨g, j, Option.none⟩ u) := by
  have hb := h.ok i _ hi
  refine h.set hi ((Fr.refl _ _).setCell (.inl (by simp [thBox])) _) ⟨by rw [← hc]; exact hb.1.put j u, hb.2⟩ (fun x hx => .inl hx)
theorem Sg.lst {i : Nat} {e : TypeId} {v : Value} {xs : List Value} (h : Sg w0 Ts w) (hi : Ts[i]? = some (thLst w0.heap.size e v xs)) : Lst w w0.heap.size e 1 v xs.length xs := h.ok i _ hi
/-- Two things made one, the other one is nothing from now on. -/
theorem Sg.join {i j : Nat} {s t t' : Th w0.heap.size} (h : Sg w0 Ts w) (hi : Ts[i]? = some s) (hj : Ts[j]? = some t) (hij : i ≠ j) (hP : t'.P w) (hF : ∀ x ∈ t'.F, x ∈ s.F ∨ x ∈ t.F) : Sg w0 ((Ts.set i t').set j (thNil w0.heap.size)) w := by
  have hli := (List.getElem?_eq_some_iff.1 hi).1
  have hlj := (List.getElem?_eq_some_iff.1 hj).1
  have key : ∀ (k : Nat) (u : Th w0.heap.size), ((Ts.set i t').set j (thNil w0.heap.size))[k]? = some u → (k = j ∧ u = thNil w0.heap.size) ∨ (k = i ∧ u = t') ∨ (k ≠ i ∧ k ≠ j ∧ Ts[k]? = some u) := fun k u hk => by
    by_cases e1 : k = j
    · subst e1
      rw [List.getElem?_set_self (by rw [List.length_set]; exact hlj)] at hk
      injection hk with hk
      exact .inl ⟨rfl, hk.symm⟩
    · rw [List.getElem?_set_ne (Ne.symm e1)] at hk
      by_cases e2 : k = i
      · subst e2
        rw [List.getElem?_set_self hli] at hk
        injection hk with hk
        exact .inr (.inl ⟨rfl, hk.symm⟩)
      · rw [List.getElem?_set_ne (Ne.symm e2)] at hk
        exact .inr (.inr ⟨e2, e1, hk⟩)
  have far : ∀ (k : Nat) (u : Th w0.heap.size), k ≠ i → k ≠ j → Ts[k]? = some u → ∀ x ∈ u.F, x ∉ t'.F := fun k u h1 h2 hu x hx hx' => by
    rcases hF x hx' with e | e
    · exact h.ap k i u s h1 hu hi x hx e
    · exact h.ap k j u t h2 hu hj x hx e
  refine ⟨fun k u hk => ?_, fun k l u v hkl hk hl x hx hx' => ?_, h.fr⟩
  · rcases key k u hk with ⟨_, rfl⟩ | ⟨_, rfl⟩ | ⟨_, _, hu⟩
    · trivial
    · exact hP
    · exact h.ok k u hu
  · rcases key k u hk with ⟨_, rfl⟩ | ⟨e1, rfl⟩ | ⟨a1, a2, hu⟩
    · simp [thNil] at hx
    · rcases key l v hl with ⟨_, rfl⟩ | ⟨e2, rfl⟩ | ⟨c1, c2, hv⟩
      · simp [thNil] at hx'
      · exact hkl (e1.trans e2.symm)
      · exact far l v c1 c2 hv x hx' hx
    · rcases key l v hl with ⟨_, rfl⟩ | ⟨e2, rfl⟩ | ⟨c1, c2, hv⟩
      · simp [thNil] at hx'
      · exact far k u a1 a2 hu x hx hx'
      · exact h.ap k l u v hkl hu hv x hx hx'
/-- A thing moved to the end. -/
theorem Sg.move {i : Nat} {t s : Th w0.heap.size} (h : Sg w0 Ts w) (hi : Ts[i]? = some t) (hP : s.P w) (hF : s.F = []) : Sg w0 ((Ts.set i s) ++ [t]) w := by
  have hli := (List.getElem?_eq_some_iff.1 hi).1
  have key : ∀ (k : Nat) (u : Th w0.heap.size), ((Ts.set i s) ++ [t])[k]? = some u → (k = i ∧ u = s) ∨ (k = Ts.length ∧ u = t) ∨ (k ≠ i ∧ k < Ts.length ∧ Ts[k]? = some u) := fun k u hk => by
    by_cases e : k < Ts.length
    · rw [List.getElem?_append_left (by rw [List.length_set]; exact e)] at hk
      by_cases e2 : k = i
      · subst e2
        rw [List.getElem?_set_self hli] at hk
        injection hk with hk
        exact .inl ⟨rfl, hk.symm⟩
      · rw [List.getElem?_set_ne (Ne.symm e2)] at hk
        exact .inr (.inr ⟨e2, e, hk⟩)
    · rw [List.getElem?_append_right (by rw [List.length_set]; omega), List.length_set] at hk
      by_cases e2 : k = Ts.length
      · subst e2
        rw [Nat.sub_self] at hk
        have hk : some t = some u := hk
        injection hk with hk
        exact .inr (.inl ⟨rfl, hk.symm⟩)
      · rw [List.getElem?_eq_none (by simp; omega)] at hk
        cases hk
  refine ⟨fun k u hk => ?_, fun k l u v hkl hk hl x hx hx' => ?_, h.fr⟩
  · rcases key k u hk with ⟨_, rfl⟩ | ⟨_, rfl⟩ | ⟨_, _, hu⟩
    · exact hP
    · exact h.ok i _ hi
    · exact h.ok k u hu
  · rcases key k u hk with ⟨_, rfl⟩ | ⟨e1, rfl⟩ | ⟨a1, a2, hu⟩
    · rw [hF] at hx; simp at hx
    · rcases key l v hl with ⟨_, rfl⟩ | ⟨e2, rfl⟩ | ⟨c1, c2, hv⟩
      · rw [hF] at hx'; simp at hx'
      · exact hkl (e1.trans e2.symm)
      · exact h.ap l i v u c1 hv hi x hx' hx
    · rcases key l v hl with ⟨_, rfl⟩ | ⟨e2, rfl⟩ | ⟨c1, c2, hv⟩
      · rw [hF] at hx'; simp at hx'
      · exact h.ap k i u v a1 hu hi x hx hx'
      · exact h.ap k l u v hkl hu hv x hx hx'
end
end Go.Proofs.YtdcppdgnekhcgaaGreatDoor
