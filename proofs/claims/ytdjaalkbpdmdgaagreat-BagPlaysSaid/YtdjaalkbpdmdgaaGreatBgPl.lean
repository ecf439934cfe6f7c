/-
  Bag: all containers of the desk side by side; a step of a script on any of them; BagPlays.
-/
import Derived.Test.YtdjaalkbpdmdgaaGreatBgX2
import Derived.Test.YtdjaalkbpdmdgaaGreatBgMq
import Derived.Test.YtdjaalkbpdmdgaaGreatBgW9
import Derived.Test.YtdjaalkbpdmdgaaGreatBgY3
namespace Go.Proofs.YtdjaalkbpdmdgaaGreat
open Go.RowKit
set_option linter.unusedVariables false

set_option maxRecDepth 100000 in
set_option maxHeartbeats 1600000 in
/-- plays is stackOp for these kinds. -/
theorem plays_stackof {w : World} {gd i : Nat} {o : Ob} {Q : Ending → World → Prop} {P : World → Prop} (his : if o.s then i = 1 else i = 0) (hk : 1 ≤ o.k ∧ o.k ≤ 4)
    (hC : Calls Tryz.prog 20 #[.pointer (some ⟨gd, 0, none⟩), .agg o.V, .int .i64 i] (w.alloc (.cells o.V 31)) Q) (hQ : ∀ e w', Q e w' → e = .returned (.bool true) ∧ P w') :
    Calls Tryz.prog 11 #[.pointer (some ⟨gd, 0, none⟩), .agg o.V] w fun e w' => e = .returned (.bool true) ∧ P w' := by
  have HC := Lib.hid hC
  have HQ := Lib.hid hQ
  clear hC hQ
  obtain ⟨k, s, n, x, str, stop⟩ := o
  unfold Ob.V at HC ⊢
  have hk : 1 ≤ k ∧ k ≤ 4 := hk
  have d1 : decide (k < 1) = false := decide_eq_false (by omega)
  have d2 : decide (26 < k) = false := decide_eq_false (by omega)
  have d3 : decide (k ≤ 4) = true := decide_eq_true (by omega)
  clear hk
  cases s with
  | false =>
    have his : i = 0 := by simpa using his
    subst his
    go_enter Tryz.func11, Tryz.ntmps11
    go_wp2_with fail
    refine (Calls.mono HC.out ?_)
    intro e w' hd
    obtain ⟨rfl, hx⟩ := HQ.out e w' hd
    have HX := Lib.hid hx
    clear hd hx
    go_wp2_with fail
    go_ret
    exact ⟨rfl, HX.out⟩
  | true =>
    have his : i = 1 := by simpa using his
    subst his
    go_enter Tryz.func11, Tryz.ntmps11
    go_wp2_with fail
    refine (Calls.mono HC.out ?_)
    intro e w' hd
    obtain ⟨rfl, hx⟩ := HQ.out e w' hd
    have HX := Lib.hid hx
    clear hd hx
    go_wp2_with fail
    go_ret
    exact ⟨rfl, HX.out⟩
set_option maxRecDepth 100000 in
set_option maxHeartbeats 1600000 in
/-- plays is queueOp for these kinds. -/
theorem plays_queueof {w : World} {gd i : Nat} {o : Ob} {Q : Ending → World → Prop} {P : World → Prop} (his : if o.s then i = 1 else i = 0) (hk : 5 ≤ o.k ∧ o.k ≤ 9)
    (hC : Calls Tryz.prog 21 #[.pointer (some ⟨gd, 0, none⟩), .agg o.V, .int .i64 i] (w.alloc (.cells o.V 31)) Q) (hQ : ∀ e w', Q e w' → e = .returned (.bool true) ∧ P w') :
    Calls Tryz.prog 11 #[.pointer (some ⟨gd, 0, none⟩), .agg o.V] w fun e w' => e = .returned (.bool true) ∧ P w' := by
  have HC := Lib.hid hC
  have HQ := Lib.hid hQ
  clear hC hQ
  obtain ⟨k, s, n, x, str, stop⟩ := o
  unfold Ob.V at HC ⊢
  have hk : 5 ≤ k ∧ k ≤ 9 := hk
  have d1 : decide (k < 1) = false := decide_eq_false (by omega)
  have d2 : decide (26 < k) = false := decide_eq_false (by omega)
  have d3 : decide (k ≤ 4) = false := decide_eq_false (by omega)
  have d4 : decide (k ≤ 9) = true := decide_eq_true (by omega)
  clear hk
  cases s with
  | false =>
    have his : i = 0 := by simpa using his
    subst his
    go_enter Tryz.func11, Tryz.ntmps11
    go_wp2_with fail
    refine (Calls.mono HC.out ?_)
    intro e w' hd
    obtain ⟨rfl, hx⟩ := HQ.out e w' hd
    have HX := Lib.hid hx
    clear hd hx
    go_wp2_with fail
    go_ret
    exact ⟨rfl, HX.out⟩
  | true =>
    have his : i = 1 := by simpa using his
    subst his
    go_enter Tryz.func11, Tryz.ntmps11
    go_wp2_with fail
    refine (Calls.mono HC.out ?_)
    intro e w' hd
    obtain ⟨rfl, hx⟩ := HQ.out e w' hd
    have HX := Lib.hid hx
    clear hd hx
    go_wp2_with fail
    go_ret
    exact ⟨rfl, HX.out⟩
set_option maxRecDepth 100000 in
set_option maxHeartbeats 1600000 in
/-- plays is textOp for these kinds. -/
theorem plays_textof {w : World} {gd i : Nat} {o : Ob} {Q : Ending → World → Prop} {P : World → Prop} (his : if o.s then i = 1 else i = 0) (hk : 10 ≤ o.k ∧ o.k ≤ 14)
    (hC : Calls Tryz.prog 22 #[.pointer (some ⟨gd, 0, none⟩), .agg o.V, .int .i64 i] (w.alloc (.cells o.V 31)) Q) (hQ : ∀ e w', Q e w' → e = .returned (.bool true) ∧ P w') :
    Calls Tryz.prog 11 #[.pointer (some ⟨gd, 0, none⟩), .agg o.V] w fun e w' => e = .returned (.bool true) ∧ P w' := by
  have HC := Lib.hid hC
  have HQ := Lib.hid hQ
  clear hC hQ
  obtain ⟨k, s, n, x, str, stop⟩ := o
  unfold Ob.V at HC ⊢
  have hk : 10 ≤ k ∧ k ≤ 14 := hk
  have d1 : decide (k < 1) = false := decide_eq_false (by omega)
  have d2 : decide (26 < k) = false := decide_eq_false (by omega)
  have d3 : decide (k ≤ 4) = false := decide_eq_false (by omega)
  have d4 : decide (k ≤ 9) = false := decide_eq_false (by omega)
  have d5 : decide (k ≤ 14) = true := decide_eq_true (by omega)
  clear hk
  cases s with
  | false =>
    have his : i = 0 := by simpa using his
    subst his
    go_enter Tryz.func11, Tryz.ntmps11
    go_wp2_with fail
    refine (Calls.mono HC.out ?_)
    intro e w' hd
    obtain ⟨rfl, hx⟩ := HQ.out e w' hd
    have HX := Lib.hid hx
    clear hd hx
    go_wp2_with fail
    go_ret
    exact ⟨rfl, HX.out⟩
  | true =>
    have his : i = 1 := by simpa using his
    subst his
    go_enter Tryz.func11, Tryz.ntmps11
    go_wp2_with fail
    refine (Calls.mono HC.out ?_)
    intro e w' hd
    obtain ⟨rfl, hx⟩ := HQ.out e w' hd
    have HX := Lib.hid hx
    clear hd hx
    go_wp2_with fail
    go_ret
    exact ⟨rfl, HX.out⟩
/-- What the containers hold. -/
structure Al where
  S : Nat → List Int
  Q : Nat → List Int
  X : Nat → List ByteArray
  T : Nat → List PN
  R : Nat → List PN
  M : Nat → List PT
  O : Nat → List PT
/-- All containers of the desk. -/
structure DA (w0 : World) (gd : Nat) (pt : Nat → Nat → Nat) (mo : Nat → Int) (u : Al) (Ts : List (Th w0.heap.size)) (w : World) : Prop where
  sg : Sg w0 Ts w
  len : Ts.length = 22
  d : ∃ f : Nat → Value, Ts[0]? = some (thBox w0.heap.size gd 52 (deskA f)) ∧ ∀ i, i < 2 → ∀ j, j < 10 → f (2 * j + i) = ptV (pt i j)
  s : ∀ i, i < 2 → (∃ v, Ts[2 + 10 * i]? = some (thSk 121 w0.heap.size (pt i 0) (mo i) v (u.S i).reverse)) ∧ ∃ v, Ts[2 + 10 * i + 5]? = some (thNb 77 3 w0.heap.size (pt i 5) v (mo i) (iV (u.S i)))
  q : ∀ i, i < 2 → (∃ v, Ts[2 + 10 * i + 1]? = some (thSk 122 w0.heap.size (pt i 1) (mo i) v (u.Q i))) ∧ ∃ v, Ts[2 + 10 * i + 6]? = some (thNb 77 3 w0.heap.size (pt i 6) v (mo i) (iV (u.Q i)))
  x : ∀ i, i < 2 → (∃ v, Ts[2 + 10 * i + 2]? = some (thSx 124 w0.heap.size (pt i 2) (mo i) v (u.X i))) ∧ ∃ v, Ts[2 + 10 * i + 7]? = some (thNb 79 9 w0.heap.size (pt i 7) v (mo i) (sV (u.X i)))
  t : ∀ i, i < 2 → (∃ v, Ts[2 + 10 * i + 3]? = some (thTbN w0.heap.size (pt i 3) v (u.T i))) ∧ ∃ kv vv, Ts[2 + 10 * i + 8]? = some (thRw 71 3 29 w0.heap.size (pt i 8) kv vv (rkN (u.R i)) (rvN (u.R i)))
  n : ∀ i, i < 2 → (∃ v, Ts[2 + 10 * i + 4]? = some (thTbT w0.heap.size (pt i 4) v (u.M i))) ∧ ∃ kv vv, Ts[2 + 10 * i + 9]? = some (thRw 74 9 3 w0.heap.size (pt i 9) kv vv (rkT (u.O i)) (rvT (u.O i)))
  rl : ∀ i, i < 2 → Rl (u.T i) (u.R i)
  rm : ∀ i, i < 2 → RlT (u.M i) (u.O i)
theorem DA.old {w0 w w' : World} {gd : Nat} {pt : Nat → Nat → Nat} {mo : Nat → Int} {u : Al} {Ts Us T : List (Th w0.heap.size)} {ja jb : Nat} (h : DA w0 gd pt mo u Ts w) (h1 : Sg w0 T w') (h2 : Chg (Ts ++ Us) T ja jb) (ha : ja ≠ 0) (hb : jb ≠ 0) :
    Sg w0 (T.take Ts.length) w' ∧ (T.take Ts.length).length = 22 ∧ (∃ f : Nat → Value, (T.take Ts.length)[0]? = some (thBox w0.heap.size gd 52 (deskA f)) ∧ ∀ i, i < 2 → ∀ j, j < 10 → f (2 * j + i) = ptV (pt i j)) ∧
      (∀ j, j < 22 → j ≠ ja → j ≠ jb → (T.take Ts.length)[j]? = Ts[j]?) ∧ ∀ j, j < 22 → (T.take Ts.length)[j]? = T[j]? := by
  have hl := h.len
  have hlt : T.length = Ts.length + Us.length := by rw [h2.1, List.length_append]
  have old : ∀ j, j < 22 → j ≠ ja → j ≠ jb → (T.take Ts.length)[j]? = Ts[j]? := fun j hj h5 h6 => by
    rw [List.getElem?_take, if_pos (by omega), h2.2 j h5 h6, List.getElem?_append_left (by omega)]
  refine ⟨h1.take _, by rw [List.length_take]; omega, ?_, old, fun j hj => by rw [List.getElem?_take, if_pos (by omega)]⟩
  obtain ⟨f, f1, f2⟩ := h.d
  exact ⟨f, by rw [old 0 (by omega) (Ne.symm ha) (Ne.symm hb)]; exact f1, f2⟩
theorem DA.step_s {w0 w w' : World} {gd : Nat} {pt : Nat → Nat → Nat} {mo : Nat → Int} {u : Al} {Ts Us : List (Th w0.heap.size)} {i : Nat} {L' : List Int} {e : Ending} (hi : i < 2) (h : DA w0 gd pt mo u Ts w) (hd : DoN w0 (Ts ++ Us) 121 (fun L => L.reverse) (pt i 0) (pt i 5) (mo i) (2 + 10 * i) (2 + 10 * i + 5) L' e w') :
    e = .returned (.bool true) ∧ ∃ Ts', DA w0 gd pt mo { u with S := updN u.S i L' } Ts' w' := by
  obtain ⟨he, T, v, v2, h1, h2, h3, h4⟩ := hd
  obtain ⟨a1, a2, a3, old, new⟩ := h.old h1 h2 (by omega) (by omega)
  refine ⟨he, T.take Ts.length, a1, a2, a3, fun i' hi' => ?_, fun i' hi' => ?_, fun i' hi' => ?_, fun i' hi' => ?_, fun i' hi' => ?_, fun i' hi' => ?_, fun i' hi' => ?_⟩
  · by_cases e : i' = i
    · subst e
      simp only [updN, if_true]
      exact ⟨⟨v, by rw [new _ (by omega)]; exact h3⟩, v2, by rw [new _ (by omega)]; exact h4⟩
    · simp only [updN, if_neg e]
      obtain ⟨⟨y, k1⟩, y2, k2⟩ := h.s i' hi'
      exact ⟨⟨y, by rw [old _ (by omega) (by omega) (by omega)]; exact k1⟩, y2, by rw [old _ (by omega) (by omega) (by omega)]; exact k2⟩
  · obtain ⟨⟨y, k1⟩, y2, k2⟩ := h.q i' hi'
    exact ⟨⟨y, by rw [old _ (by omega) (by omega) (by omega)]; exact k1⟩, y2, by rw [old _ (by omega) (by omega) (by omega)]; exact k2⟩
  · obtain ⟨⟨y, k1⟩, y2, k2⟩ := h.x i' hi'
    exact ⟨⟨y, by rw [old _ (by omega) (by omega) (by omega)]; exact k1⟩, y2, by rw [old _ (by omega) (by omega) (by omega)]; exact k2⟩
  · obtain ⟨⟨y, k1⟩, y2, y3, k2⟩ := h.t i' hi'
    exact ⟨⟨y, by rw [old _ (by omega) (by omega) (by omega)]; exact k1⟩, y2, y3, by rw [old _ (by omega) (by omega) (by omega)]; exact k2⟩
  · obtain ⟨⟨y, k1⟩, y2, y3, k2⟩ := h.n i' hi'
    exact ⟨⟨y, by rw [old _ (by omega) (by omega) (by omega)]; exact k1⟩, y2, y3, by rw [old _ (by omega) (by omega) (by omega)]; exact k2⟩
  · exact h.rl i' hi'
  · exact h.rm i' hi'
theorem DA.step_q {w0 w w' : World} {gd : Nat} {pt : Nat → Nat → Nat} {mo : Nat → Int} {u : Al} {Ts Us : List (Th w0.heap.size)} {i : Nat} {L' : List Int} {e : Ending} (hi : i < 2) (h : DA w0 gd pt mo u Ts w) (hd : DoN w0 (Ts ++ Us) 122 (fun L => L) (pt i 1) (pt i 6) (mo i) (2 + 10 * i + 1) (2 + 10 * i + 6) L' e w') :
    e = .returned (.bool true) ∧ ∃ Ts', DA w0 gd pt mo { u with Q := updN u.Q i L' } Ts' w' := by
  obtain ⟨he, T, v, v2, h1, h2, h3, h4⟩ := hd
  obtain ⟨a1, a2, a3, old, new⟩ := h.old h1 h2 (by omega) (by omega)
  refine ⟨he, T.take Ts.length, a1, a2, a3, fun i' hi' => ?_, fun i' hi' => ?_, fun i' hi' => ?_, fun i' hi' => ?_, fun i' hi' => ?_, fun i' hi' => ?_, fun i' hi' => ?_⟩
  · obtain ⟨⟨y, k1⟩, y2, k2⟩ := h.s i' hi'
    exact ⟨⟨y, by rw [old _ (by omega) (by omega) (by omega)]; exact k1⟩, y2, by rw [old _ (by omega) (by omega) (by omega)]; exact k2⟩
  · by_cases e : i' = i
    · subst e
      simp only [updN, if_true]
      exact ⟨⟨v, by rw [new _ (by omega)]; exact h3⟩, v2, by rw [new _ (by omega)]; exact h4⟩
    · simp only [updN, if_neg e]
      obtain ⟨⟨y, k1⟩, y2, k2⟩ := h.q i' hi'
      exact ⟨⟨y, by rw [old _ (by omega) (by omega) (by omega)]; exact k1⟩, y2, by rw [old _ (by omega) (by omega) (by omega)]; exact k2⟩
  · obtain ⟨⟨y, k1⟩, y2, k2⟩ := h.x i' hi'
    exact ⟨⟨y, by rw [old _ (by omega) (by omega) (by omega)]; exact k1⟩, y2, by rw [old _ (by omega) (by omega) (by omega)]; exact k2⟩
  · obtain ⟨⟨y, k1⟩, y2, y3, k2⟩ := h.t i' hi'
    exact ⟨⟨y, by rw [old _ (by omega) (by omega) (by omega)]; exact k1⟩, y2, y3, by rw [old _ (by omega) (by omega) (by omega)]; exact k2⟩
  · obtain ⟨⟨y, k1⟩, y2, y3, k2⟩ := h.n i' hi'
    exact ⟨⟨y, by rw [old _ (by omega) (by omega) (by omega)]; exact k1⟩, y2, y3, by rw [old _ (by omega) (by omega) (by omega)]; exact k2⟩
  · exact h.rl i' hi'
  · exact h.rm i' hi'
theorem DA.step_x {w0 w w' : World} {gd : Nat} {pt : Nat → Nat → Nat} {mo : Nat → Int} {u : Al} {Ts Us : List (Th w0.heap.size)} {i : Nat} {L' : List ByteArray} {e : Ending} (hi : i < 2) (h : DA w0 gd pt mo u Ts w) (hd : DoX w0 (Ts ++ Us) 124 (pt i 2) (pt i 7) (mo i) (2 + 10 * i + 2) (2 + 10 * i + 7) L' e w') :
    e = .returned (.bool true) ∧ ∃ Ts', DA w0 gd pt mo { u with X := updX u.X i L' } Ts' w' := by
  obtain ⟨he, T, v, v2, h1, h2, h3, h4⟩ := hd
  obtain ⟨a1, a2, a3, old, new⟩ := h.old h1 h2 (by omega) (by omega)
  refine ⟨he, T.take Ts.length, a1, a2, a3, fun i' hi' => ?_, fun i' hi' => ?_, fun i' hi' => ?_, fun i' hi' => ?_, fun i' hi' => ?_, fun i' hi' => ?_, fun i' hi' => ?_⟩
  · obtain ⟨⟨y, k1⟩, y2, k2⟩ := h.s i' hi'
    exact ⟨⟨y, by rw [old _ (by omega) (by omega) (by omega)]; exact k1⟩, y2, by rw [old _ (by omega) (by omega) (by omega)]; exact k2⟩
  · obtain ⟨⟨y, k1⟩, y2, k2⟩ := h.q i' hi'
    exact ⟨⟨y, by rw [old _ (by omega) (by omega) (by omega)]; exact k1⟩, y2, by rw [old _ (by omega) (by omega) (by omega)]; exact k2⟩
  · by_cases e : i' = i
    · subst e
      simp only [updX, if_true]
      exact ⟨⟨v, by rw [new _ (by omega)]; exact h3⟩, v2, by rw [new _ (by omega)]; exact h4⟩
    · simp only [updX, if_neg e]
      obtain ⟨⟨y, k1⟩, y2, k2⟩ := h.x i' hi'
      exact ⟨⟨y, by rw [old _ (by omega) (by omega) (by omega)]; exact k1⟩, y2, by rw [old _ (by omega) (by omega) (by omega)]; exact k2⟩
  · obtain ⟨⟨y, k1⟩, y2, y3, k2⟩ := h.t i' hi'
    exact ⟨⟨y, by rw [old _ (by omega) (by omega) (by omega)]; exact k1⟩, y2, y3, by rw [old _ (by omega) (by omega) (by omega)]; exact k2⟩
  · obtain ⟨⟨y, k1⟩, y2, y3, k2⟩ := h.n i' hi'
    exact ⟨⟨y, by rw [old _ (by omega) (by omega) (by omega)]; exact k1⟩, y2, y3, by rw [old _ (by omega) (by omega) (by omega)]; exact k2⟩
  · exact h.rl i' hi'
  · exact h.rm i' hi'
theorem DA.step_t {w0 w w' : World} {gd : Nat} {pt : Nat → Nat → Nat} {mo : Nat → Int} {u : Al} {Ts Us : List (Th w0.heap.size)} {i : Nat} {L' R' : List PN} {e : Ending} (hi : i < 2) (h : DA w0 gd pt mo u Ts w) (hr : Rl L' R') (hd : DoW w0 (Ts ++ Us) (pt i 3) (pt i 8) (2 + 10 * i + 3) (2 + 10 * i + 8) L' R' e w') :
    e = .returned (.bool true) ∧ ∃ Ts', DA w0 gd pt mo { u with T := updPN u.T i L', R := updPN u.R i R' } Ts' w' := by
  obtain ⟨he, T, v, kv, vv, h1, h2, h3, h4⟩ := hd
  obtain ⟨a1, a2, a3, old, new⟩ := h.old h1 h2 (by omega) (by omega)
  refine ⟨he, T.take Ts.length, a1, a2, a3, fun i' hi' => ?_, fun i' hi' => ?_, fun i' hi' => ?_, fun i' hi' => ?_, fun i' hi' => ?_, fun i' hi' => ?_, fun i' hi' => ?_⟩
  · obtain ⟨⟨y, k1⟩, y2, k2⟩ := h.s i' hi'
    exact ⟨⟨y, by rw [old _ (by omega) (by omega) (by omega)]; exact k1⟩, y2, by rw [old _ (by omega) (by omega) (by omega)]; exact k2⟩
  · obtain ⟨⟨y, k1⟩, y2, k2⟩ := h.q i' hi'
    exact ⟨⟨y, by rw [old _ (by omega) (by omega) (by omega)]; exact k1⟩, y2, by rw [old _ (by omega) (by omega) (by omega)]; exact k2⟩
  · obtain ⟨⟨y, k1⟩, y2, k2⟩ := h.x i' hi'
    exact ⟨⟨y, by rw [old _ (by omega) (by omega) (by omega)]; exact k1⟩, y2, by rw [old _ (by omega) (by omega) (by omega)]; exact k2⟩
  · by_cases e : i' = i
    · subst e
      simp only [updPN, if_true]
      exact ⟨⟨v, by rw [new _ (by omega)]; exact h3⟩, kv, vv, by rw [new _ (by omega)]; exact h4⟩
    · simp only [updPN, if_neg e]
      obtain ⟨⟨y, k1⟩, y2, y3, k2⟩ := h.t i' hi'
      exact ⟨⟨y, by rw [old _ (by omega) (by omega) (by omega)]; exact k1⟩, y2, y3, by rw [old _ (by omega) (by omega) (by omega)]; exact k2⟩
  · obtain ⟨⟨y, k1⟩, y2, y3, k2⟩ := h.n i' hi'
    exact ⟨⟨y, by rw [old _ (by omega) (by omega) (by omega)]; exact k1⟩, y2, y3, by rw [old _ (by omega) (by omega) (by omega)]; exact k2⟩
  · by_cases e : i' = i
    · subst e
      simp only [updPN, if_true]
      exact hr
    · simp only [updPN, if_neg e]
      exact h.rl i' hi'
  · exact h.rm i' hi'
theorem DA.step_n {w0 w w' : World} {gd : Nat} {pt : Nat → Nat → Nat} {mo : Nat → Int} {u : Al} {Ts Us : List (Th w0.heap.size)} {i : Nat} {L' R' : List PT} {e : Ending} (hi : i < 2) (h : DA w0 gd pt mo u Ts w) (hr : RlT L' R') (hd : DoM w0 (Ts ++ Us) (pt i 4) (pt i 9) (2 + 10 * i + 4) (2 + 10 * i + 9) L' R' e w') :
    e = .returned (.bool true) ∧ ∃ Ts', DA w0 gd pt mo { u with M := updPT u.M i L', O := updPT u.O i R' } Ts' w' := by
  obtain ⟨he, T, v, kv, vv, h1, h2, h3, h4⟩ := hd
  obtain ⟨a1, a2, a3, old, new⟩ := h.old h1 h2 (by omega) (by omega)
  refine ⟨he, T.take Ts.length, a1, a2, a3, fun i' hi' => ?_, fun i' hi' => ?_, fun i' hi' => ?_, fun i' hi' => ?_, fun i' hi' => ?_, fun i' hi' => ?_, fun i' hi' => ?_⟩
  · obtain ⟨⟨y, k1⟩, y2, k2⟩ := h.s i' hi'
    exact ⟨⟨y, by rw [old _ (by omega) (by omega) (by omega)]; exact k1⟩, y2, by rw [old _ (by omega) (by omega) (by omega)]; exact k2⟩
  · obtain ⟨⟨y, k1⟩, y2, k2⟩ := h.q i' hi'
    exact ⟨⟨y, by rw [old _ (by omega) (by omega) (by omega)]; exact k1⟩, y2, by rw [old _ (by omega) (by omega) (by omega)]; exact k2⟩
  · obtain ⟨⟨y, k1⟩, y2, k2⟩ := h.x i' hi'
    exact ⟨⟨y, by rw [old _ (by omega) (by omega) (by omega)]; exact k1⟩, y2, by rw [old _ (by omega) (by omega) (by omega)]; exact k2⟩
  · obtain ⟨⟨y, k1⟩, y2, y3, k2⟩ := h.t i' hi'
    exact ⟨⟨y, by rw [old _ (by omega) (by omega) (by omega)]; exact k1⟩, y2, y3, by rw [old _ (by omega) (by omega) (by omega)]; exact k2⟩
  · by_cases e : i' = i
    · subst e
      simp only [updPT, if_true]
      exact ⟨⟨v, by rw [new _ (by omega)]; exact h3⟩, kv, vv, by rw [new _ (by omega)]; exact h4⟩
    · simp only [updPT, if_neg e]
      obtain ⟨⟨y, k1⟩, y2, y3, k2⟩ := h.n i' hi'
      exact ⟨⟨y, by rw [old _ (by omega) (by omega) (by omega)]; exact k1⟩, y2, y3, by rw [old _ (by omega) (by omega) (by omega)]; exact k2⟩
  · exact h.rl i' hi'
  · by_cases e : i' = i
    · subst e
      simp only [updPT, if_true]
      exact hr
    · simp only [updPT, if_neg e]
      exact h.rm i' hi'
/-- No container holds more than k. -/
structure Few (u : Al) (k : Nat) : Prop where
  s : ∀ i, i < 2 → (u.S i).length ≤ k
  q : ∀ i, i < 2 → (u.Q i).length ≤ k
  x : ∀ i, i < 2 → (u.X i).length ≤ k
  t : ∀ i, i < 2 → (u.T i).length ≤ k
  n : ∀ i, i < 2 → (u.M i).length ≤ k
theorem Few.up {u : Al} {k : Nat} (h : Few u k) : Few u (k + 1) := ⟨fun i hi => Nat.le_succ_of_le (h.s i hi), fun i hi => Nat.le_succ_of_le (h.q i hi), fun i hi => Nat.le_succ_of_le (h.x i hi), fun i hi => Nat.le_succ_of_le (h.t i hi), fun i hi => Nat.le_succ_of_le (h.n i hi)⟩
theorem plays_any {w0 w : World} {gd k : Nat} {pt : Nat → Nat → Nat} {mo : Nat → Int} {u : Al} {Ts : List (Th w0.heap.size)} (h : DA w0 gd pt mo u Ts w) (hF : Few u k) (hk4 : k < 400) (o : Ob) (hk : 1 ≤ o.k ∧ o.k ≤ 26) :
    Calls Tryz.prog 11 #[.pointer (some ⟨gd, 0, none⟩), .agg o.V] w fun e w' => e = .returned (.bool true) ∧ ∃ (u' : Al) (Ts' : List (Th w0.heap.size)), Few u' (k + 1) ∧ DA w0 gd pt mo u' Ts' w' := by
  obtain ⟨i, hi, his⟩ : ∃ i : Nat, i < 2 ∧ (if o.s then i = 1 else i = 0) := by
    cases o.s
    · exact ⟨0, by omega, rfl⟩
    · exact ⟨1, by omega, rfl⟩
  obtain ⟨f, f1, f2⟩ := h.d
  have hl := h.len
  have hbx := h.sg.box 31 o.V
  have c : (1 ≤ o.k ∧ o.k ≤ 4) ∨ (5 ≤ o.k ∧ o.k ≤ 9) ∨ (10 ≤ o.k ∧ o.k ≤ 14) ∨ (15 ≤ o.k ∧ o.k ≤ 20) ∨ (21 ≤ o.k ∧ o.k ≤ 26) := by omega
  rcases c with hc | hc | hc | hc | hc
  · obtain ⟨⟨v, s1⟩, v2, s2⟩ := h.s i hi
    refine plays_stackof his hc (stackOp_any (gs := pt i 0) (gr := pt i 5) (ja := 2 + 10 * i) (jb := 2 + 10 * i + 5) hi hbx (by rw [List.getElem?_append_left (by omega)]; exact f1) (by rw [deskA_at f (by omega)]; have := f2 i hi 0 (by omega); rw [show 2 * 0 + i = 0 + i by omega] at this; rw [this]; rfl) (by rw [deskA_at f (by omega)]; have := f2 i hi 5 (by omega); rw [show 2 * 5 + i = 10 + i by omega] at this; rw [this]; rfl)
      (by rw [List.getElem?_append_left (by omega)]; exact s1) (by rw [List.getElem?_append_left (by omega)]; exact s2) (by omega) (by omega) (by omega) (by have := hF.s i hi; omega) o hc) (fun e w' hd => ?_)
    obtain ⟨k1, T', k2⟩ := h.step_s hi hd
    refine ⟨k1, _, T', ?_, k2⟩
    have hF1 := hF.up
    refine ⟨fun j hj => ?_, hF1.q, hF1.x, hF1.t, hF1.n⟩
    simp only [updN]
    split
    · have := stA_len (mo i) (u.S i) o
      have := hF.s i hi
      omega
    · have := hF.s j hj
      omega
  · obtain ⟨⟨v, s1⟩, v2, s2⟩ := h.q i hi
    refine plays_queueof his hc (queueOp_any (gs := pt i 1) (gr := pt i 6) (ja := 2 + 10 * i + 1) (jb := 2 + 10 * i + 6) hi hbx (by rw [List.getElem?_append_left (by omega)]; exact f1) (by rw [deskA_at f (by omega)]; have := f2 i hi 1 (by omega); rw [show 2 * 1 + i = 2 + i by omega] at this; rw [this]; rfl) (by rw [deskA_at f (by omega)]; have := f2 i hi 6 (by omega); rw [show 2 * 6 + i = 12 + i by omega] at this; rw [this]; rfl)
      (by rw [List.getElem?_append_left (by omega)]; exact s1) (by rw [List.getElem?_append_left (by omega)]; exact s2) (by omega) (by omega) (by omega) (by have := hF.q i hi; omega) o hc) (fun e w' hd => ?_)
    obtain ⟨k1, T', k2⟩ := h.step_q hi hd
    refine ⟨k1, _, T', ?_, k2⟩
    have hF1 := hF.up
    refine ⟨hF1.s, fun j hj => ?_, hF1.x, hF1.t, hF1.n⟩
    simp only [updN]
    split
    · have := quA_len (mo i) (u.Q i) o
      have := hF.q i hi
      omega
    · have := hF.q j hj
      omega
  · obtain ⟨⟨v, s1⟩, v2, s2⟩ := h.x i hi
    refine plays_textof his hc (textOp_any (gs := pt i 2) (gr := pt i 7) (ja := 2 + 10 * i + 2) (jb := 2 + 10 * i + 7) hi hbx (by rw [List.getElem?_append_left (by omega)]; exact f1) (by rw [deskA_at f (by omega)]; have := f2 i hi 2 (by omega); rw [show 2 * 2 + i = 4 + i by omega] at this; rw [this]; rfl) (by rw [deskA_at f (by omega)]; have := f2 i hi 7 (by omega); rw [show 2 * 7 + i = 14 + i by omega] at this; rw [this]; rfl)
      (by rw [List.getElem?_append_left (by omega)]; exact s1) (by rw [List.getElem?_append_left (by omega)]; exact s2) (by omega) (by omega) (by omega) (by have := hF.x i hi; omega) o hc) (fun e w' hd => ?_)
    obtain ⟨k1, T', k2⟩ := h.step_x hi hd
    refine ⟨k1, _, T', ?_, k2⟩
    have hF1 := hF.up
    refine ⟨hF1.s, hF1.q, fun j hj => ?_, hF1.t, hF1.n⟩
    simp only [updX]
    split
    · have := txA_len (mo i) (u.X i) o
      have := hF.x i hi
      omega
    · have := hF.x j hj
      omega
  · obtain ⟨⟨v, s1⟩, kv, vv, s2⟩ := h.t i hi
    refine plays_wordof his hc (wordOp_any (gs := pt i 3) (gr := pt i 8) (ja := 2 + 10 * i + 3) (jb := 2 + 10 * i + 8) hi hbx (by rw [List.getElem?_append_left (by omega)]; exact f1) (by rw [deskA_at f (by omega)]; have := f2 i hi 3 (by omega); rw [show 2 * 3 + i = 6 + i by omega] at this; rw [this]; rfl) (by rw [deskA_at f (by omega)]; have := f2 i hi 8 (by omega); rw [show 2 * 8 + i = 16 + i by omega] at this; rw [this]; rfl)
      (by rw [List.getElem?_append_left (by omega)]; exact s1) (by rw [List.getElem?_append_left (by omega)]; exact s2) (by omega) (by omega) (by omega) (h.rl i hi) (by have := hF.t i hi; omega) o hc) (fun e w' hd => ?_)
    obtain ⟨k1, T', k2⟩ := h.step_t hi (twN_rl (h.rl i hi) o) hd
    refine ⟨k1, _, T', ?_, k2⟩
    have hF1 := hF.up
    refine ⟨hF1.s, hF1.q, hF1.x, fun j hj => ?_, hF1.n⟩
    simp only [updPN]
    split
    · have := twN_len (h.rl i hi) o
      have := hF.t i hi
      omega
    · have := hF.t j hj
      omega
  · obtain ⟨⟨v, s1⟩, kv, vv, s2⟩ := h.n i hi
    refine plays_nameof his hc (nameOp_any (gs := pt i 4) (gr := pt i 9) (ja := 2 + 10 * i + 4) (jb := 2 + 10 * i + 9) hi hbx (by rw [List.getElem?_append_left (by omega)]; exact f1) (by rw [deskA_at f (by omega)]; have := f2 i hi 4 (by omega); rw [show 2 * 4 + i = 8 + i by omega] at this; rw [this]; rfl) (by rw [deskA_at f (by omega)]; have := f2 i hi 9 (by omega); rw [show 2 * 9 + i = 18 + i by omega] at this; rw [this]; rfl)
      (by rw [List.getElem?_append_left (by omega)]; exact s1) (by rw [List.getElem?_append_left (by omega)]; exact s2) (by omega) (by omega) (by omega) (h.rm i hi) (by have := hF.n i hi; omega) o hc) (fun e w' hd => ?_)
    obtain ⟨k1, T', k2⟩ := h.step_n hi (twT_rl (h.rm i hi) o) hd
    refine ⟨k1, _, T', ?_, k2⟩
    have hF1 := hF.up
    refine ⟨hF1.s, hF1.q, hF1.x, hF1.t, fun j hj => ?_⟩
    simp only [updPT]
    split
    · have := twT_len (h.rm i hi) o
      have := hF.n i hi
      omega
    · have := hF.n j hj
      omega
/-- All containers, while a script is played. -/
theorem run_all {w0 w : World} {gd gm : Nat} {orig : Nat → Int} (h : BI w0 gd gm orig 2 w) : ∃ Inv : Nat → World → Prop, Inv 0 w ∧ Run w0 gd 1 26 Inv := by
  obtain ⟨pt, Ts, f, m, s1, s2, s3, s4, s5, s6⟩ := h
  refine ⟨fun k z => ∃ u Ts', Few u k ∧ DA w0 gd pt (fun i => moOf (orig i)) u Ts' z, ⟨⟨fun _ => [], fun _ => [], fun _ => [], fun _ => [], fun _ => [], fun _ => [], fun _ => []⟩, Ts, ⟨fun i _ => by simp, fun i _ => by simp, fun i _ => by simp, fun i _ => by simp, fun i _ => by simp⟩, s1, s2, ⟨f, s3, fun i hi j hj => (s5 i hi).2 j hj⟩, fun i hi => ⟨⟨nilS, (s5 i hi).1 0 _ rfl⟩, nilS, (s5 i hi).1 5 _ rfl⟩, fun i hi => ⟨⟨nilS, (s5 i hi).1 1 _ rfl⟩, nilS, (s5 i hi).1 6 _ rfl⟩, fun i hi => ⟨⟨nilS, (s5 i hi).1 2 _ rfl⟩, nilS, (s5 i hi).1 7 _ rfl⟩,
    fun i hi => ⟨⟨nilS, (s5 i hi).1 3 _ rfl⟩, nilS, nilS, (s5 i hi).1 8 _ rfl⟩, fun i hi => ⟨⟨nilS, (s5 i hi).1 4 _ rfl⟩, nilS, nilS, (s5 i hi).1 9 _ rfl⟩, fun i hi => Rl.nil, fun i hi => RlT.nil⟩, ⟨?_, ?_, ?_⟩⟩
  · rintro k z ⟨u, T, _, hd⟩
    exact hd.sg.fr
  · rintro k z ⟨u, T, hl, hd⟩
    exact ⟨u, T, hl.up, hd⟩
  · rintro k z o hk h1 h2 ⟨u, T, hl, hd⟩
    exact plays_any hd hl hk o ⟨h1, h2⟩
theorem plays_st (one two : Int) (A : Option Addr) (n c : Nat) (l : List Ob) (w : World) (hn : n = l.length) (hnn : n ≤ 9223372036854775807) (hr : RdB w A l) :
    Calls Tryz.prog 8 #[.int .i64 one, .int .i64 two, .slice A n c] w fun e w' => e = .returned (.bool true) ∧ Fr [] w w' := by
  have H := Lib.hid (run_any w one two 1 26 (fun i => if i = 0 then one else two) A n c l hn hnn hr (begin_any w one two _ rfl rfl) (fun gd gm w' h => run_all h))
  clear hn hr
  go_enter Tryz.func8, Tryz.ntmps8
  go_wp2_with fail
  refine (Calls.mono H.out ?_)
  rintro e w' ⟨rfl, hf⟩
  have HF := Lib.hid hf
  clear hf
  go_wp2_with fail
  go_ret
  exact ⟨rfl, HF.out⟩
end Go.Proofs.YtdjaalkbpdmdgaaGreat
