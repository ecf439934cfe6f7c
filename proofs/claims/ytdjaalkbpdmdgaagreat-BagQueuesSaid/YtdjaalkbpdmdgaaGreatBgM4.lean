/-
  Bag: a script's step on the queues of numbers.
-/
import Derived.Test.YtdjaalkbpdmdgaaGreatBgM3
import Derived.Test.YtdjaalkbpdmdgaaGreatBgT12
namespace Go.Proofs.YtdjaalkbpdmdgaaGreat
open Go.RowKit
set_option linter.unusedVariables false

def quA (most : Int) (L : List Int) (o : Ob) : List Int := if o.k = 5 then addQ most L o.n else if o.k = 6 then L.tail else if o.k = 7 then L.map (f3 o.n) else L
theorem quA_len (most : Int) (L : List Int) (o : Ob) : (quA most L o).length ≤ L.length + 1 := by
  unfold quA addQ
  split
  · split <;> simp
  · split
    · simp; omega
    · split <;> simp
/-- The queues of the desk. -/
structure DQ (w0 : World) (gd : Nat) (pt : Nat → Nat → Nat) (mo : Nat → Int) (LS : Nat → List Int) (Ts : List (Th w0.heap.size)) (w : World) : Prop where
  sg : Sg w0 Ts w
  len : Ts.length = 22
  d : ∃ f : Nat → Value, Ts[0]? = some (thBox w0.heap.size gd 52 (deskA f)) ∧ ∀ i, i < 2 → ∀ j, j < 10 → f (2 * j + i) = ptV (pt i j)
  st : ∀ i, i < 2 → (∃ v, Ts[2 + 10 * i + 1]? = some (thSk 122 w0.heap.size (pt i 1) (mo i) v (LS i))) ∧ ∃ v, Ts[2 + 10 * i + 6]? = some (thNb 77 3 w0.heap.size (pt i 6) v (mo i) (iV (LS i)))

theorem queueOp_any {w0 w : World} {Ts : List (Th w0.heap.size)} {gd i gs gr ja jb : Nat} {cs : Array Value} {most : Int} {v v2 : Value} {L : List Int} (hi : i < 2) (h : Sg w0 Ts w) (hd : Ts[0]? = some (thBox w0.heap.size gd 52 cs)) (hc0 : cs[2 + i]? = some (.pointer (some ⟨gs, 0, none⟩))) (hc1 : cs[12 + i]? = some (.pointer (some ⟨gr, 0, none⟩))) (ha : Ts[ja]? = some (thSk 122 w0.heap.size gs most v L)) (hb : Ts[jb]? = some (thNb 77 3 w0.heap.size gr v2 most (iV L))) (hab : ja ≠ jb) (h0a : ja ≠ 0) (h0b : jb ≠ 0) (hL : L.length ≤ 100000) (o : Ob) (hk : 5 ≤ o.k ∧ o.k ≤ 9) :
    Calls Tryz.prog 21 #[.pointer (some ⟨gd, 0, none⟩), .agg o.V, .int .i64 i] w (DoN w0 Ts 122 (fun L => L) gs gr most ja jb (quA most L o)) := by
  obtain ⟨k, s, n, x, str, stop⟩ := o
  have hk : 5 ≤ k ∧ k ≤ 9 := hk
  have : k = 5 ∨ k = 6 ∨ k = 7 ∨ k = 8 ∨ k = 9 := by omega
  rcases this with rfl | rfl | rfl | rfl | rfl
  · exact d_queue_add hi h hd hc0 hc1 ha hb hab h0a h0b hL s n x str stop
  · exact d_queue_take hi h hd hc0 hc1 ha hb hab h0a h0b hL s n x str stop
  · exact d_queue_map hi h hd hc0 hc1 ha hb hab h0a h0b hL s n x str stop
  · exact d_queue_len hi h hd hc0 hc1 ha hb hab h0a h0b hL s n x str stop
  · exact d_queue_all hi h hd hc0 hc1 ha hb hab h0a h0b hL s n x str stop

theorem DQ.step {w0 w w' : World} {gd : Nat} {pt : Nat → Nat → Nat} {mo : Nat → Int} {LS : Nat → List Int} {Ts Us : List (Th w0.heap.size)} {i : Nat} {L' : List Int} {e : Ending} (hi : i < 2) (h : DQ w0 gd pt mo LS Ts w) (hd : DoN w0 (Ts ++ Us) 122 (fun L => L) (pt i 1) (pt i 6) (mo i) (2 + 10 * i + 1) (2 + 10 * i + 6) L' e w') :
    e = .returned (.bool true) ∧ ∃ Ts', DQ w0 gd pt mo (updN LS i L') Ts' w' := by
  obtain ⟨he, T, v, v2, h1, h2, h3, h4⟩ := hd
  have hl := h.len
  have hlt : T.length = Ts.length + Us.length := by rw [h2.1, List.length_append]
  have old : ∀ j, j < Ts.length → j ≠ 2 + 10 * i + 1 → j ≠ 2 + 10 * i + 6 → (T.take Ts.length)[j]? = Ts[j]? := fun j hj h5 h6 => by
    rw [List.getElem?_take, if_pos hj, h2.2 j h5 h6, List.getElem?_append_left hj]
  refine ⟨he, T.take Ts.length, h1.take _, by rw [List.length_take]; omega, ?_, fun i' hi' => ?_⟩
  · obtain ⟨f, f1, f2⟩ := h.d
    exact ⟨f, by rw [old 0 (by omega) (by omega) (by omega)]; exact f1, f2⟩
  · by_cases e : i' = i
    · subst e
      unfold updN
      rw [if_pos rfl]
      exact ⟨⟨v, by rw [List.getElem?_take, if_pos (by omega)]; exact h3⟩, v2, by rw [List.getElem?_take, if_pos (by omega)]; exact h4⟩
    · unfold updN
      rw [if_neg e]
      obtain ⟨⟨u, k1⟩, u2, k2⟩ := h.st i' hi'
      exact ⟨⟨u, by rw [old _ (by omega) (by omega) (by omega)]; exact k1⟩, u2, by rw [old _ (by omega) (by omega) (by omega)]; exact k2⟩

set_option maxRecDepth 100000 in
set_option maxHeartbeats 1600000 in
theorem plays_queue {w0 w : World} {gd : Nat} {pt : Nat → Nat → Nat} {mo : Nat → Int} {LS : Nat → List Int} {Ts : List (Th w0.heap.size)} (h : DQ w0 gd pt mo LS Ts w) (hL : ∀ i, i < 2 → (LS i).length ≤ 100000) (o : Ob) (hk : 5 ≤ o.k ∧ o.k ≤ 9) :
    Calls Tryz.prog 11 #[.pointer (some ⟨gd, 0, none⟩), .agg o.V] w fun e w' => e = .returned (.bool true) ∧ ∃ (i : Nat) (Ts' : List (Th w0.heap.size)), i < 2 ∧ DQ w0 gd pt mo (updN LS i (quA (mo i) (LS i) o)) Ts' w' := by
  obtain ⟨i, hi, his⟩ : ∃ i : Nat, i < 2 ∧ (if o.s then i = 1 else i = 0) := by
    cases o.s
    · exact ⟨0, by omega, rfl⟩
    · exact ⟨1, by omega, rfl⟩
  obtain ⟨f, f1, f2⟩ := h.d
  obtain ⟨⟨v, s1⟩, v2, s2⟩ := h.st i hi
  have hl := h.len
  have hbx := h.sg.box 31 o.V
  have HC := Lib.hid (queueOp_any (gs := pt i 1) (gr := pt i 6) (ja := 2 + 10 * i + 1) (jb := 2 + 10 * i + 6) hi hbx (by rw [List.getElem?_append_left (by omega)]; exact f1) (by rw [deskA_at f (by omega)]; have := f2 i hi 1 (by omega); rw [show 2 * 1 + i = 2 + i by omega] at this; rw [this]; rfl) (by rw [deskA_at f (by omega)]; have := f2 i hi 6 (by omega); rw [show 2 * 6 + i = 12 + i by omega] at this; rw [this]; rfl)
    (by rw [List.getElem?_append_left (by omega)]; exact s1) (by rw [List.getElem?_append_left (by omega)]; exact s2) (by omega) (by omega) (by omega) (hL i hi) o hk)
  have HSTEP : Hid (∀ e w', DoN w0 (Ts ++ [thBox w0.heap.size w.heap.size 31 o.V]) 122 (fun L => L) (pt i 1) (pt i 6) (mo i) (2 + 10 * i + 1) (2 + 10 * i + 6) (quA (mo i) (LS i) o) e w' → e = .returned (.bool true) ∧ ∃ (i : Nat) (Ts' : List (Th w0.heap.size)), i < 2 ∧ DQ w0 gd pt mo (updN LS i (quA (mo i) (LS i) o)) Ts' w') := fun e w' hd => by
    obtain ⟨k1, T', k2⟩ := h.step hi hd
    exact ⟨k1, i, T', hi, k2⟩
  obtain ⟨k, s, n, x, str, stop⟩ := o
  unfold Ob.V at HC HSTEP ⊢
  have d1 : decide (k < 1) = false := decide_eq_false (by have : 5 ≤ k := hk.1; omega)
  have d2 : decide (26 < k) = false := decide_eq_false (by have : k ≤ 9 := hk.2; omega)
  have d3 : decide (k ≤ 4) = false := decide_eq_false (by have : 5 ≤ k := hk.1; omega)
  have d4 : decide (k ≤ 9) = true := decide_eq_true hk.2
  clear h f1 f2 s1 s2 hl hbx hL hk
  cases s with
  | false =>
    have his : i = 0 := by simpa using his
    subst his
    go_enter Tryz.func11, Tryz.ntmps11
    go_wp2_with fail
    refine (Calls.mono HC.out ?_)
    intro e w' hd
    obtain ⟨rfl, hx⟩ := HSTEP.out e w' hd
    have HX := Lib.hid hx
    clear hd hx
    go_wp2_with fail
    go_ret
    exact ⟨rfl, HX.out⟩
  | true =>
    have his : i = 1 := by simpa using his
    subst his
    go_enter Tryz.func11, Tryz.ntmps11
    go_wp2_with fail
    refine (Calls.mono HC.out ?_)
    intro e w' hd
    obtain ⟨rfl, hx⟩ := HSTEP.out e w' hd
    have HX := Lib.hid hx
    clear hd hx
    go_wp2_with fail
    go_ret
    exact ⟨rfl, HX.out⟩
/-- The queues, while a script is played. -/
theorem run_queue {w0 w : World} {gd gm : Nat} {orig : Nat → Int} (h : BI w0 gd gm orig 2 w) : ∃ Inv : Nat → World → Prop, Inv 0 w ∧ Run w0 gd 5 9 Inv := by
  obtain ⟨pt, Ts, f, m, s1, s2, s3, s4, s5, s6⟩ := h
  refine ⟨fun k z => ∃ LS Ts', (∀ i, i < 2 → (LS i).length ≤ k) ∧ DQ w0 gd pt (fun i => moOf (orig i)) LS Ts' z, ⟨fun _ => [], Ts, fun i _ => by simp, s1, s2, ⟨f, s3, fun i hi j hj => (s5 i hi).2 j hj⟩, fun i hi => ?_⟩, ⟨?_, ?_, ?_⟩⟩
  · have h0 := (s5 i hi).1 1 _ rfl
    have h5 := (s5 i hi).1 6 _ rfl
    exact ⟨⟨nilS, h0⟩, nilS, h5⟩
  · rintro k z ⟨LS, T, _, hd⟩
    exact hd.sg.fr
  · rintro k z ⟨LS, T, hl, hd⟩
    exact ⟨LS, T, fun i hi => by have := hl i hi; omega, hd⟩
  · rintro k z o hk h1 h2 ⟨LS, T, hl, hd⟩
    refine (plays_queue hd (fun i hi => by have := hl i hi; omega) o ⟨h1, h2⟩).mono ?_
    rintro e z' ⟨he, i, T', hi, hd'⟩
    refine ⟨he, _, T', fun j hj => ?_, hd'⟩
    unfold updN
    split
    · have := quA_len (moOf (orig i)) (LS i) o
      have := hl i hi
      omega
    · have := hl j hj
      omega
theorem queues_st (one two : Int) (A : Option Addr) (n c : Nat) (l : List Ob) (w : World) (hn : n = l.length) (hnn : n ≤ 9223372036854775807) (hr : RdB w A l) :
    Calls Tryz.prog 4 #[.int .i64 one, .int .i64 two, .slice A n c] w fun e w' => e = .returned (.bool true) ∧ Fr [] w w' := by
  have H := Lib.hid (run_any w one two 5 9 (fun i => if i = 0 then one else two) A n c l hn hnn hr (begin_any w one two _ rfl rfl) (fun gd gm w' h => run_queue h))
  clear hn hr
  go_enter Tryz.func4, Tryz.ntmps4
  go_wp2_with fail
  refine (Calls.mono H.out ?_)
  rintro e w' ⟨rfl, hf⟩
  have HF := Lib.hid hf
  clear hf
  go_wp2_with fail
  go_ret
  exact ⟨rfl, HF.out⟩
end Go.Proofs.YtdjaalkbpdmdgaaGreat
