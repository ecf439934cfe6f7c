/-
  Bag: a script's step on the stacks.
-/
import Derived.Test.YtdjaalkbpdmdgaaGreatBgT8
namespace Go.Proofs.YtdjaalkbpdmdgaaGreat
open Go.RowKit
set_option linter.unusedVariables false

structure Ob where
  k : Int
  s : Bool
  n : Int
  x : Int
  str : ByteArray
  stop : Int
def Ob.V (o : Ob) : Array Value := #[.int .i64 o.k, .bool o.s, .int .i64 o.n, .int .u64 o.x, .string o.str, .int .i64 o.stop]
def stA (most : Int) (L : List Int) (o : Ob) : List Int := if o.k = 1 then addS most L o.n else if o.k = 2 then L.tail else L
theorem stA_len (most : Int) (L : List Int) (o : Ob) : (stA most L o).length ≤ L.length + 1 := by
  unfold stA addS
  split
  · split <;> simp
  · split <;> simp <;> omega
/-- The stacks of the desk. -/
structure DI (w0 : World) (gd : Nat) (pt : Nat → Nat → Nat) (mo : Nat → Int) (LS : Nat → List Int) (Ts : List (Th w0.heap.size)) (w : World) : Prop where
  sg : Sg w0 Ts w
  len : Ts.length = 22
  d : ∃ f : Nat → Value, Ts[0]? = some (thBox w0.heap.size gd 52 (deskA f)) ∧ ∀ i, i < 2 → ∀ j, j < 10 → f (2 * j + i) = ptV (pt i j)
  st : ∀ i, i < 2 → (∃ v, Ts[2 + 10 * i]? = some (thSk 121 w0.heap.size (pt i 0) (mo i) v (LS i).reverse)) ∧ ∃ v, Ts[2 + 10 * i + 5]? = some (thNb 77 3 w0.heap.size (pt i 5) v (mo i) (iV (LS i)))

theorem stackOp_any {w0 w : World} {Ts : List (Th w0.heap.size)} {gd i gs gr ja jb : Nat} {cs : Array Value} {most : Int} {v v2 : Value} {L : List Int} (hi : i < 2) (h : Sg w0 Ts w) (hd : Ts[0]? = some (thBox w0.heap.size gd 52 cs)) (hc0 : cs[0 + i]? = some (.pointer (some ⟨gs, 0, none⟩))) (hc1 : cs[10 + i]? = some (.pointer (some ⟨gr, 0, none⟩))) (ha : Ts[ja]? = some (thSk 121 w0.heap.size gs most v L.reverse)) (hb : Ts[jb]? = some (thNb 77 3 w0.heap.size gr v2 most (iV L))) (hab : ja ≠ jb) (h0a : ja ≠ 0) (h0b : jb ≠ 0) (hL : L.length ≤ 100000) (o : Ob) (hk : 1 ≤ o.k ∧ o.k ≤ 4) :
    Calls Tryz.prog 20 #[.pointer (some ⟨gd, 0, none⟩), .agg o.V, .int .i64 i] w (DoN w0 Ts 121 (fun L => L.reverse) gs gr most ja jb (stA most L o)) := by
  obtain ⟨k, s, n, x, str, stop⟩ := o
  have hk : 1 ≤ k ∧ k ≤ 4 := hk
  have : k = 1 ∨ k = 2 ∨ k = 3 ∨ k = 4 := by omega
  rcases this with rfl | rfl | rfl | rfl
  · exact d_stack_add hi h hd hc0 hc1 ha hb hab h0a h0b hL s n x str stop
  · exact d_stack_take hi h hd hc0 hc1 ha hb hab h0a h0b hL s n x str stop
  · exact d_stack_len hi h hd hc0 hc1 ha hb hab h0a h0b hL s n x str stop
  · exact d_stack_all hi h hd hc0 hc1 ha hb hab h0a h0b hL s n x str stop

def updN (LS : Nat → List Int) (i : Nat) (L : List Int) : Nat → List Int := fun j => if j = i then L else LS j
theorem DI.step {w0 w w' : World} {gd : Nat} {pt : Nat → Nat → Nat} {mo : Nat → Int} {LS : Nat → List Int} {Ts Us : List (Th w0.heap.size)} {i : Nat} {L' : List Int} {e : Ending} (hi : i < 2) (h : DI w0 gd pt mo LS Ts w) (hd : DoN w0 (Ts ++ Us) 121 (fun L => L.reverse) (pt i 0) (pt i 5) (mo i) (2 + 10 * i) (2 + 10 * i + 5) L' e w') :
    e = .returned (.bool true) ∧ ∃ Ts', DI w0 gd pt mo (updN LS i L') Ts' w' := by
  obtain ⟨he, T, v, v2, h1, h2, h3, h4⟩ := hd
  have hl := h.len
  have hlt : T.length = Ts.length + Us.length := by rw [h2.1, List.length_append]
  have old : ∀ j, j < Ts.length → j ≠ 2 + 10 * i → j ≠ 2 + 10 * i + 5 → (T.take Ts.length)[j]? = Ts[j]? := fun j hj h5 h6 => by
    rw [List.getElem?_take, if_pos hj, h2.2 j h5 h6, List.getElem?_append_left hj]
  refine ⟨he, T.take Ts.length, h1.take _, by rw [List.length_take]; omega, ?_, fun i' hi' => ?_⟩
  · obtain ⟨f, f1, f2⟩ := h.d
    exact ⟨f, by rw [old 0 (by omega) (by omega) (by omega)]; exact f1, f2⟩
  · by_cases e : i' = i
    · subst e
      unfold updN
      rw [if_pos rfl]
      exact ⟨⟨v, by rw [List.getElem?_take, if_pos (by omega)]; exact h3⟩, v2, by rw [List.getElem?_take, if_pos (by omega)]; exact h4⟩
    · unfold updN
      rw [if_neg e]
      obtain ⟨⟨u, k1⟩, u2, k2⟩ := h.st i' hi'
      exact ⟨⟨u, by rw [old _ (by omega) (by omega) (by omega)]; exact k1⟩, u2, by rw [old _ (by omega) (by omega) (by omega)]; exact k2⟩

set_option maxRecDepth 100000 in
set_option maxHeartbeats 1600000 in
theorem plays_stack {w0 w : World} {gd : Nat} {pt : Nat → Nat → Nat} {mo : Nat → Int} {LS : Nat → List Int} {Ts : List (Th w0.heap.size)} (h : DI w0 gd pt mo LS Ts w) (hL : ∀ i, i < 2 → (LS i).length ≤ 100000) (o : Ob) (hk : 1 ≤ o.k ∧ o.k ≤ 4) :
    Calls Tryz.prog 11 #[.pointer (some ⟨gd, 0, none⟩), .agg o.V] w fun e w' => e = .returned (.bool true) ∧ ∃ (i : Nat) (Ts' : List (Th w0.heap.size)), i < 2 ∧ DI w0 gd pt mo (updN LS i (stA (mo i) (LS i) o)) Ts' w' := by
  obtain ⟨i, hi, his⟩ : ∃ i : Nat, i < 2 ∧ (if o.s then i = 1 else i = 0) := by
    cases o.s
    · exact ⟨0, by omega, rfl⟩
    · exact ⟨1, by omega, rfl⟩
  obtain ⟨f, f1, f2⟩ := h.d
  obtain ⟨⟨v, s1⟩, v2, s2⟩ := h.st i hi
  have hl := h.len
  have hbx := h.sg.box 31 o.V
  have HC := Lib.hid (stackOp_any (gs := pt i 0) (gr := pt i 5) (ja := 2 + 10 * i) (jb := 2 + 10 * i + 5) hi hbx (by rw [List.getElem?_append_left (by omega)]; exact f1) (by rw [deskA_at f (by omega)]; have := f2 i hi 0 (by omega); rw [show 2 * 0 + i = 0 + i by omega] at this; rw [this]; rfl) (by rw [deskA_at f (by omega)]; have := f2 i hi 5 (by omega); rw [show 2 * 5 + i = 10 + i by omega] at this; rw [this]; rfl)
    (by rw [List.getElem?_append_left (by omega)]; exact s1) (by rw [List.getElem?_append_left (by omega)]; exact s2) (by omega) (by omega) (by omega) (hL i hi) o hk)
  have HSTEP : Hid (∀ e w', DoN w0 (Ts ++ [thBox w0.heap.size w.heap.size 31 o.V]) 121 (fun L => L.reverse) (pt i 0) (pt i 5) (mo i) (2 + 10 * i) (2 + 10 * i + 5) (stA (mo i) (LS i) o) e w' → e = .returned (.bool true) ∧ ∃ (i : Nat) (Ts' : List (Th w0.heap.size)), i < 2 ∧ DI w0 gd pt mo (updN LS i (stA (mo i) (LS i) o)) Ts' w') := fun e w' hd => by
    obtain ⟨k1, T', k2⟩ := h.step hi hd
    exact ⟨k1, i, T', hi, k2⟩
  obtain ⟨k, s, n, x, str, stop⟩ := o
  unfold Ob.V at HC HSTEP ⊢
  have d1 : decide (k < 1) = false := decide_eq_false (by have : 1 ≤ k := hk.1; omega)
  have d2 : decide (26 < k) = false := decide_eq_false (by have : k ≤ 4 := hk.2; omega)
  have d3 : decide (k ≤ 4) = true := decide_eq_true hk.2
  clear h f1 f2 s1 s2 hl hbx hL hk
  cases s with
  | false =>
    have his : i = 0 := by simpa using his
    subst his
    go_enter Tryz.func11, Tryz.ntmps11
    go_wp2_with fail
    refine (Calls.mono HC.out ?_)
    intro e w' hd
    obtain ⟨rfl, hx⟩ := HSTEP.out e w' hd
    have HX := Lib.hid hx
    clear hd hx
    go_wp2_with fail
    go_ret
    exact ⟨rfl, HX.out⟩
  | true =>
    have his : i = 1 := by simpa using his
    subst his
    go_enter Tryz.func11, Tryz.ntmps11
    go_wp2_with fail
    refine (Calls.mono HC.out ?_)
    intro e w' hd
    obtain ⟨rfl, hx⟩ := HSTEP.out e w' hd
    have HX := Lib.hid hx
    clear hd hx
    go_wp2_with fail
    go_ret
    exact ⟨rfl, HX.out⟩
end Go.Proofs.YtdjaalkbpdmdgaaGreat
