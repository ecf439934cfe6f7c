/-
  Roots in general: what each does to what it meets (plain), and one meeting.
-/
import Derived.Test.YtdcppdgnekhcgaaGreatDoorRtS8
import Derived.Test.YtdcppdgnekhcgaaGreatDoorRtS7
namespace Go.Proofs.YtdcppdgnekhcgaaGreatDoor
open Go.RowKit
set_option maxRecDepth 100000
set_option linter.unusedVariables false

/-- Of what lay below n₀ only the blocks of the list may have turned. -/
structure Kb (n₀ : Nat) (T : List Nat) (w w' : World) : Prop where
  os : w'.os = w.os
  tape : w'.tape = w.tape
  output : w'.output = w.output
  size : w.heap.size ≤ w'.heap.size
  block : ∀ k, k < n₀ → k < w.heap.size → k ∉ T → w'.heap[k]? = w.heap[k]?
theorem Kb.refl (n₀ : Nat) (T : List Nat) (w : World) : Kb n₀ T w w := ⟨rfl, rfl, rfl, Nat.le_refl _, fun _ _ _ _ => rfl⟩
theorem Kb.trans {n₀ : Nat} {T : List Nat} {a b c : World} (h : Kb n₀ T a b) (k : Kb n₀ T b c) : Kb n₀ T a c :=
  ⟨k.os.trans h.os, k.tape.trans h.tape, k.output.trans h.output, Nat.le_trans h.size k.size, fun i h1 h2 h3 => (k.block i h1 (Nat.lt_of_lt_of_le h2 h.size) h3).trans (h.block i h1 h2 h3)⟩
theorem Fr.kb {n₀ : Nat} {T S : List Nat} {a b : World} (h : Fr S a b) (hS : ∀ x ∈ S, x ∈ T ∨ n₀ ≤ x) : Kb n₀ T a b :=
  ⟨h.os, h.tape, h.output, h.size, fun k h1 h2 h3 => h.block k h2 (fun hx => by rcases hS k hx with e | e; exact h3 e; omega)⟩
theorem Kb.weak {n₀ : Nat} {T T' : List Nat} {a b : World} (h : Kb n₀ T a b) (hT : ∀ x ∈ T, x ∈ T') : Kb n₀ T' a b := ⟨h.os, h.tape, h.output, h.size, fun k h1 h2 h3 => h.block k h1 h2 (fun hx => h3 (hT k hx))⟩
theorem Kb.bk {n₀ : Nat} {T : List Nat} {a b : World} (h : Kb n₀ T a b) {g : Nat} {t : TypeId} {cs : Array Value} (hb : Bk a g t cs) (h1 : g < n₀) (h3 : g ∉ T) : Bk b g t cs := (h.block g h1 hb.lt h3).trans hb
/-- As a frame: what else may have turned lies from n₀ on. -/
theorem Kb.fr {n₀ : Nat} {T : List Nat} {w w' : World} (h : Kb n₀ T w w') : Fr (T ++ (List.range w.heap.size).filter (fun k => decide (n₀ ≤ k))) w w' :=
  ⟨h.os, h.tape, h.output, h.size, fun k hk hn => h.block k (Decidable.byContradiction fun h1 => hn (List.mem_append_right _ (by simp; omega))) hk (fun hx => hn (List.mem_append_left _ hx))⟩
theorem Kb.fr0 {T : List Nat} {w w' : World} {n₀ : Nat} (h : Kb n₀ T w w') (hn : w.heap.size ≤ n₀) : Fr T w w' := ⟨h.os, h.tape, h.output, h.size, fun k h1 h2 => h.block k (by omega) h1 h2⟩

section
variable (y : List Int → Int → Int)
def stepL (s : List Int × List Int) (x : Int) : List Int × List Int := if 0 < x then (s.1 ++ [x], s.2 ++ [y s.1 x]) else (s.1, s.2 ++ [x])
def trL (pre : List Int) (l : List Int) : List Int × List Int := l.foldl (stepL y) (pre, [])
def stepF (s : List Int × List (List Int)) (l : List Int) : List Int × List (List Int) := ((trL y s.1 l).1, s.2 ++ [(trL y s.1 l).2])
def trF (pre : List Int) (fs : List (List Int)) : List Int × List (List Int) := fs.foldl (stepF y) (pre, [])
def stepT (s : List Int × List (List (List Int))) (fs : List (List Int)) : List Int × List (List (List Int)) := ((trF y s.1 fs).1, s.2 ++ [(trF y s.1 fs).2])
def trT (pre : List Int) (ths : List (List (List Int))) : List Int × List (List (List Int)) := ths.foldl (stepT y) (pre, [])
def stepH (s : List Int × List (Bool × Int)) (p : Bool × Int) : List Int × List (Bool × Int) := if p.1 = true ∧ 0 < p.2 then (s.1 ++ [p.2], s.2 ++ [(true, y s.1 p.2)]) else (s.1, s.2 ++ [p])
def trH (pre : List Int) (hs : List (Bool × Int)) : List Int × List (Bool × Int) := hs.foldl (stepH y) (pre, [])
/-- What is met, and what all becomes. -/
def updA (a : RA) : List Int × RA :=
  let t := trT y [] a.ths
  let h := trH y t.1 a.hs
  let q := trL y h.1 a.q
  (q.1, { a with ths := t.2, hs := h.2, q := q.2 })
theorem trL_succ {pre l : List Int} {k : Nat} {x : Int} (h : l[k]? = some x) : trL y pre (l.take (k + 1)) = stepL y (trL y pre (l.take k)) x := by
  obtain ⟨h1, h2⟩ := List.getElem?_eq_some_iff.1 h
  unfold trL
  rw [List.take_succ_eq_append_getElem h1, h2, List.foldl_append]
  rfl
theorem trF_succ {pre : List Int} {fs : List (List Int)} {k : Nat} {x : List Int} (h : fs[k]? = some x) : trF y pre (fs.take (k + 1)) = stepF y (trF y pre (fs.take k)) x := by
  obtain ⟨h1, h2⟩ := List.getElem?_eq_some_iff.1 h
  unfold trF
  rw [List.take_succ_eq_append_getElem h1, h2, List.foldl_append]
  rfl
theorem trT_succ {pre : List Int} {ths : List (List (List Int))} {k : Nat} {x : List (List Int)} (h : ths[k]? = some x) : trT y pre (ths.take (k + 1)) = stepT y (trT y pre (ths.take k)) x := by
  obtain ⟨h1, h2⟩ := List.getElem?_eq_some_iff.1 h
  unfold trT
  rw [List.take_succ_eq_append_getElem h1, h2, List.foldl_append]
  rfl
theorem trH_succ {pre : List Int} {hs : List (Bool × Int)} {k : Nat} {x : Bool × Int} (h : hs[k]? = some x) : trH y pre (hs.take (k + 1)) = stepH y (trH y pre (hs.take k)) x := by
  obtain ⟨h1, h2⟩ := List.getElem?_eq_some_iff.1 h
  unfold trH
  rw [List.take_succ_eq_append_getElem h1, h2, List.foldl_append]
  rfl
theorem trL_len (pre : List Int) : ∀ (l : List Int) (s : List Int × List Int), (l.foldl (stepL y) s).2.length = s.2.length + l.length
  | [], s => by simp
  | x :: l, s => by
    rw [List.foldl_cons, trL_len pre l]
    unfold stepL
    split <;> simp <;> omega
theorem trL_length (pre l : List Int) : (trL y pre l).2.length = l.length := by
  have := trL_len y pre l (pre, [])
  simpa [trL] using this
end

/-- What a visitor does: it is handed the address of a number above 0, takes note of it, and lays another one in its place. -/
def Vis (n₀ N : Nat) (D : List Nat) (f : Nat) (fi : Array Value) (VS : List Int → World → Prop) (y : List Int → Int → Int) : Prop :=
  ∀ (pre : List Int) (x : Int) (b i : Nat) (t : TypeId) (cs : Array Value) (W : World), pre.length < N → VS pre W → n₀ ≤ W.heap.size → Bk W b t cs → cs[i]? = some (.int .i64 x) → 0 < x → b < n₀ → b ∉ D →
    Calls Tryz.prog f (fi ++ #[.pointer (some ⟨b, i, none⟩)]) W fun e W' => e = .returned (.tuple #[]) ∧ VS (pre ++ [x]) W' ∧ Bk W' b t (cs.setIfInBounds i (.int .i64 (y pre x))) ∧ Kb n₀ (b :: D) W W'

/-- One meeting. -/
def Met (n₀ : Nat) (D : List Nat) (VS : List Int → World → Prop) (y : List Int → Int → Int) (pre : List Int) (x : Int) (b i : Nat) (t : TypeId) (cs : Array Value) (W : World) (e : Ending) (W' : World) : Prop :=
  e = .returned (.tuple #[]) ∧ VS (stepL y (pre, []) x).1 W' ∧ Bk W' b t (cs.setIfInBounds i (.int .i64 ((stepL y (pre, []) x).2.getD 0 0))) ∧ Kb n₀ (b :: D) W W'

theorem meet_any {n₀ N : Nat} {D : List Nat} {f : Nat} {fi : Array Value} {VS : List Int → World → Prop} {y : List Int → Int → Int} (hVi : Vis n₀ N D f fi VS y) (eg : ∀ args w, (callFunc f args).run Tryz.prog w = .ok (.enter f args) w)
    {pre : List Int} {x : Int} {b i bx : Nat} {t : TypeId} {cs : Array Value} {W : World} (hlen : pre.length < N) (hs : VS pre W) (hn : n₀ ≤ W.heap.size) (hb : Bk W b t cs) (hc : cs[i]? = some (.int .i64 x)) (hbn : b < n₀) (hbD : b ∉ D) (hx : Bk W bx 93 #[.func (.func f) fi #[]]) :
    Calls Tryz.prog 90 #[.pointer (some ⟨b, i, none⟩), .pointer (some ⟨bx, 0, none⟩)] W (Met n₀ D VS y pre x b i t cs W) := by
  have cc : W.cell? ⟨b, i, none⟩ = some (.int .i64 x) := by rw [hb.cell, hc]
  have cx := hx.cell 0
  by_cases h0 : 0 < x
  · have HC := Lib.hid (hVi pre x b i t cs W hlen hs hn hb hc h0 hbn hbD)
    have hd : decide (0 < x) = true := decide_eq_true h0
    have e : stepL y (pre, []) x = (pre ++ [x], [y pre x]) := by unfold stepL; rw [if_pos h0]; rfl
    unfold Met
    rw [e]
    have HE := Lib.hid eg
    clear hs hb hc hx hVi
    go_enter Tryz.func90, Tryz.ntmps90
    go_wp2_with fail
    refine (Calls.mono HC.out ?_)
    rintro e w' ⟨rfl, h1, h2, h3⟩
    have H1 := Lib.hid h1
    have H2 := Lib.hid h2
    have H3 := Lib.hid h3
    clear h1 h2 h3
    go_wp2_with fail
    go_returns
    exact ⟨rfl, H1.out, H2.out, H3.out⟩
  · have hd : decide (0 < x) = false := decide_eq_false h0
    have e : stepL y (pre, []) x = (pre, [x]) := by unfold stepL; rw [if_neg h0]; rfl
    have hsame : cs.setIfInBounds i (.int .i64 x) = cs := by
      apply Array.ext_getElem?
      intro j
      rw [Array.getElem?_setIfInBounds]
      split
      · rename_i hij
        subst hij
        split
        · exact hc.symm
        · rename_i hge
          rw [Array.getElem?_eq_none (by omega)]
      · rfl
    have H1 := Lib.hid hs
    have H2 := Lib.hid hb
    unfold Met
    rw [e]
    clear hs hb hc hx hVi
    go_enter Tryz.func90, Tryz.ntmps90
    go_wp2_with fail
    go_returns
    refine ⟨rfl, H1.out, ?_, Kb.refl _ _ _⟩
    first
      | exact H2.out
      | (show Bk W b t (cs.setIfInBounds i (.int .i64 x)); rw [hsame]; exact H2.out)

/-- While all roots are gone through: roots that were R, now Rc; pre has been met. -/
structure Ev (b0 n₀ g bx : Nat) (R : Rts) (D : List Nat) (VS : List Int → World → Prop) (f : Nat) (fi : Array Value) (w0 : World) (Rc : Rts) (pre : List Int) (wr : World) : Prop where
  rt : RT b0 wr g Rc
  ft : Rc.foot g = R.foot g
  vs : VS pre wr
  kb : Kb n₀ (R.foot g ++ D) w0 wr
  bx : Bk wr bx 93 #[.func (.func f) fi #[]]
  sz : n₀ ≤ wr.heap.size

theorem stepL_get (y : List Int → Int → Int) (pre : List Int) (x : Int) : ∃ x', (stepL y (pre, []) x).2 = [x'] ∧ (stepL y (pre, []) x).2.getD 0 0 = x' ∧ ∀ acc, stepL y (pre, acc) x = ((stepL y (pre, []) x).1, acc ++ [x']) := by
  unfold stepL
  split
  · exact ⟨_, rfl, rfl, fun acc => rfl⟩
  · exact ⟨_, rfl, rfl, fun acc => rfl⟩
theorem hV_set2 : ∀ (l : List (Bool × Int)) (k : Nat) (p : Bool × Int) (z : Int), l[k]? = some p → (hV l).set (k * 2 + 1) (.int .i64 z) = hV (l.set k (p.1, z))
  | [], k, p, z, h => by simp at h
  | q :: l, 0, p, z, h => by
    simp at h
    subst h
    simp [hV]
  | q :: l, k + 1, p, z, h => by
    have := hV_set2 l k p z (by simpa using h)
    rw [show (k + 1) * 2 = k * 2 + 1 + 1 by omega]
    simpa [hV] using this
theorem Lst.of_block {w w' : World} {base : Nat} {e : TypeId} {size n : Nat} {v : Value} {xs : List Value} (h : Lst w base e size v n xs) (hb : ∀ k, v.ownBlock = some k → w'.heap[k]? = w.heap[k]?) : Lst w' base e size v n xs := by
  refine ⟨h.1, ?_⟩
  rcases h.2 with h0 | ⟨g, off, cap, cur, rfl, h1, h2, rest⟩
  · exact .inl h0
  · exact .inr ⟨g, off, cap, cur, rfl, h1, (hb g rfl).trans h2, rest⟩

section
variable {b0 n₀ g bx N : Nat} {R Rc : Rts} {D : List Nat} {VS : List Int → World → Prop} {f : Nat} {fi : Array Value} {w0 wr : World} {pre : List Int} {y : List Int → Int → Int}
theorem Ev.off {b : Nat} (hF : ∀ x ∈ R.foot g, x < n₀ ∧ x ∉ D) (h : Ev b0 n₀ g bx R D VS f fi w0 Rc pre wr) : ∀ x ∈ (b :: D) ++ (List.range wr.heap.size).filter (fun k => decide (n₀ ≤ k)), x ∈ Rc.foot g → x = b := by
  intro x hx hm
  rw [h.ft] at hm
  have := hF x hm
  simp only [List.cons_append, List.mem_cons, List.mem_append, List.mem_filter, decide_eq_true_eq] at hx
  rcases hx with e | e | e
  · exact e
  · exact absurd e this.2
  · omega

theorem Ev.slot {A B : List Thr} {v : Value} {C Dd : List Frm} {b : Nat} {l1 l2 : List Int} {x : Int} (h : Ev b0 n₀ g bx R D VS f fi w0 Rc pre wr) (hF : ∀ x ∈ R.foot g, x < n₀ ∧ x ∉ D) (hbx : bx < n₀ ∧ bx ∉ R.foot g ∧ bx ∉ D) (hb0 : b0 ≤ n₀)
    (hVi : Vis n₀ N D f fi VS y) (eg : ∀ args w, (callFunc f args).run Tryz.prog w = .ok (.enter f args) w) (hlen : pre.length < N)
    (hR : Rc.ths = A ++ ⟨v, C ++ ⟨b, l1 ++ x :: l2⟩ :: Dd⟩ :: B) :
    Calls Tryz.prog 90 #[.pointer (some ⟨b, l1.length, none⟩), .pointer (some ⟨bx, 0, none⟩)] wr fun e w' => e = .returned (.tuple #[]) ∧
      ∃ x', (∀ acc, stepL y (pre, acc) x = ((stepL y (pre, []) x).1, acc ++ [x'])) ∧ Ev b0 n₀ g bx R D VS f fi w0 { Rc with ths := A ++ ⟨v, C ++ ⟨b, l1 ++ x' :: l2⟩ :: Dd⟩ :: B } (stepL y (pre, []) x).1 w' := by
  have ht : (⟨v, C ++ ⟨b, l1 ++ x :: l2⟩ :: Dd⟩ : Thr) ∈ Rc.ths := by rw [hR]; simp
  have hff : (⟨b, l1 ++ x :: l2⟩ : Frm) ∈ (⟨v, C ++ ⟨b, l1 ++ x :: l2⟩ :: Dd⟩ : Thr).fs := by simp
  have hB := h.rt.Fr _ ht _ hff
  have hbf : b ∈ R.foot g := by rw [← h.ft]; exact foot_mem.2 (.inr (.inr (.inr (.inr (.inl ⟨_, ht, _, hff, rfl⟩)))))
  obtain ⟨x', e1, e2, e3⟩ := stepL_get y pre x
  refine (meet_any hVi eg hlen h.vs h.sz hB (i := l1.length) (x := x) (by simp [iV]) (hF b hbf).1 (hF b hbf).2 h.bx).mono ?_
  rintro e w' ⟨he, hvs, hBk, hkb⟩
  rw [e2] at hBk
  refine ⟨he, x', e3, ?_⟩
  have hnew : ((iV (l1 ++ x :: l2)).toArray.setIfInBounds l1.length (.int .i64 x')) = (iV (l1 ++ x' :: l2)).toArray := by
    have := set_mid (l1.map (Value.int .i64)) (.int .i64 x) (.int .i64 x') (l2.map (Value.int .i64))
    rw [List.length_map] at this
    unfold iV
    simp [this]
  have key := h.rt.slot (w' := w') (C := C) (D := Dd) (f := ⟨b, l1 ++ x :: l2⟩) (l' := l1 ++ x' :: l2) hkb.fr (h.off hF) (Nat.le_trans hb0 h.sz) hR rfl (by simp) (by
    have := hBk
    show Bk w' b 3 (iV (l1 ++ x' :: l2)).toArray
    rw [← hnew]
    exact hBk)
  refine ⟨key.1, key.2.trans h.ft, hvs, h.kb.trans (hkb.weak (by
    intro z hz
    rcases List.mem_cons.1 hz with e | e
    · exact List.mem_append_left _ (e ▸ hbf)
    · exact List.mem_append_right _ e)), hkb.bk h.bx hbx.1 (by
    simp only [List.mem_cons, not_or]
    exact ⟨fun e => hbx.2.1 (e ▸ hbf), hbx.2.2⟩), Nat.le_trans h.sz hkb.size⟩

theorem Ev.handle {H1 H2 : List (Bool × Int)} {x : Int} (h : Ev b0 n₀ g bx R D VS f fi w0 Rc pre wr) (hF : ∀ x ∈ R.foot g, x < n₀ ∧ x ∉ D) (hbx : bx < n₀ ∧ bx ∉ R.foot g ∧ bx ∉ D)
    (hVi : Vis n₀ N D f fi VS y) (eg : ∀ args w, (callFunc f args).run Tryz.prog w = .ok (.enter f args) w) (hlen : pre.length < N)
    (hR : Rc.hs = H1 ++ (true, x) :: H2) :
    Calls Tryz.prog 90 #[.pointer (some ⟨Rc.gH, H1.length * 2 + 1, none⟩), .pointer (some ⟨bx, 0, none⟩)] wr fun e w' => e = .returned (.tuple #[]) ∧
      ∃ x', (∀ acc, stepL y (pre, acc) x = ((stepL y (pre, []) x).1, acc ++ [x'])) ∧ Ev b0 n₀ g bx R D VS f fi w0 { Rc with hs := H1 ++ (true, x') :: H2 } (stepL y (pre, []) x).1 w' := by
  have hB := h.rt.Hd
  have hbf : Rc.gH ∈ R.foot g := by rw [← h.ft]; exact foot_mem.2 (.inr (.inr (.inl rfl)))
  obtain ⟨x', e1, e2, e3⟩ := stepL_get y pre x
  have hat : Rc.hs[H1.length]? = some (true, x) := by rw [hR]; simp
  refine (meet_any hVi eg hlen h.vs h.sz hB (i := H1.length * 2 + 1) (x := x) (by rw [List.getElem?_toArray]; exact (hV_at _ _ _ hat).2) (hF _ hbf).1 (hF _ hbf).2 h.bx).mono ?_
  rintro e w' ⟨he, hvs, hBk, hkb⟩
  rw [e2] at hBk
  refine ⟨he, x', e3, ?_⟩
  have hset : Rc.hs.set H1.length (true, x') = H1 ++ (true, x') :: H2 := by rw [hR]; exact set_mid _ _ _ _
  have hnew : ((hV Rc.hs).toArray.setIfInBounds (H1.length * 2 + 1) (.int .i64 x')) = (hV (H1 ++ (true, x') :: H2)).toArray := by
    rw [← hset, ← hV_set2 Rc.hs H1.length (true, x) x' hat]
    simp
  rw [hnew] at hBk
  have key := h.rt.hturn (w' := w') (hs' := H1 ++ (true, x') :: H2) hkb.fr (h.off hF) (by rw [hR]; simp) hBk
  refine ⟨key, h.ft, hvs, h.kb.trans (hkb.weak (by
    intro z hz
    rcases List.mem_cons.1 hz with e | e
    · exact List.mem_append_left _ (e ▸ hbf)
    · exact List.mem_append_right _ e)), hkb.bk h.bx hbx.1 (by
    simp only [List.mem_cons, not_or]
    exact ⟨fun e => hbx.2.1 (e ▸ hbf), hbx.2.2⟩), Nat.le_trans h.sz hkb.size⟩

theorem Ev.queue {q1 q2 : List Int} {x : Int} {qb off n cap : Nat} (h : Ev b0 n₀ g bx R D VS f fi w0 Rc pre wr) (hF : ∀ x ∈ R.foot g, x < n₀ ∧ x ∉ D) (hbx : bx < n₀ ∧ bx ∉ R.foot g ∧ bx ∉ D) (hb0 : b0 ≤ n₀)
    (hVi : Vis n₀ N D f fi VS y) (eg : ∀ args w, (callFunc f args).run Tryz.prog w = .ok (.enter f args) w) (hlen : pre.length < N)
    (hR : Rc.q = q1 ++ x :: q2) (hv : Rc.vq = .slice (some ⟨qb, off, none⟩) n cap) :
    Calls Tryz.prog 90 #[.pointer (some ⟨qb, off + q1.length, none⟩), .pointer (some ⟨bx, 0, none⟩)] wr fun e w' => e = .returned (.tuple #[]) ∧
      ∃ x', (∀ acc, stepL y (pre, acc) x = ((stepL y (pre, []) x).1, acc ++ [x'])) ∧ Ev b0 n₀ g bx R D VS f fi w0 { Rc with q := q1 ++ x' :: q2 } (stepL y (pre, []) x).1 w' := by
  have hQ := h.rt.Q
  have hown : Rc.vq.ownBlock = some qb := by rw [hv]; rfl
  obtain ⟨cs, hB⟩ := hQ.bk hown
  have hbf : qb ∈ R.foot g := by rw [← h.ft]; exact foot_mem.2 (.inr (.inr (.inr (.inl hown))))
  obtain ⟨x', e1, e2, e3⟩ := stepL_get y pre x
  have hnlen : n = Rc.q.length := by
    obtain ⟨A, cp, hv2, _⟩ := hQ.look
    rw [hv] at hv2
    injection hv2
  have hc : cs[off + q1.length]? = some (.int .i64 x) := by
    obtain ⟨g2, off2, cap2, hv2, _, _, _, _, _, _, hcell⟩ := hQ.form (by rw [hR]; simp; omega)
    rw [hv] at hv2
    injection hv2 with hv2 _ _
    injection hv2 with hv2
    injection hv2 with a1 a2
    subst a1 a2
    rw [← hB.cell]
    exact hcell q1.length _ (by rw [hR]; simp [iV])
  refine (meet_any hVi eg hlen h.vs h.sz hB (i := off + q1.length) (x := x) hc (hF _ hbf).1 (hF _ hbf).2 h.bx).mono ?_
  rintro e w' ⟨he, hvs, hBk, hkb⟩
  rw [e2] at hBk
  refine ⟨he, x', e3, ?_⟩
  have hset : (iV Rc.q).set q1.length (.int .i64 x') = iV (q1 ++ x' :: q2) := by
    rw [hR]
    unfold iV
    have := set_mid (q1.map (Value.int .i64)) (.int .i64 x) (.int .i64 x') (q2.map (Value.int .i64))
    rw [List.length_map] at this
    rw [List.map_append, List.map_cons, this, List.map_append, List.map_cons]
  have hL : Lst w' b0 3 1 Rc.vq (q1 ++ x' :: q2).length (iV (q1 ++ x' :: q2)) := by
    have h2 := hQ
    rw [hv, ← hnlen] at h2
    have h3 := h2.put (j := q1.length) (.int .i64 x')
    rw [hset] at h3
    have e4 : (q1 ++ x' :: q2).length = n := by rw [hnlen, hR]; simp
    rw [e4, hv]
    refine h3.of_block (fun k hk => ?_)
    have : qb = k := by simpa [Value.ownBlock] using hk
    subst this
    exact hBk.trans (hB.put (off + q1.length) (.int .i64 x')).symm
  have hgo : g ∉ ((qb :: D) ++ (List.range wr.heap.size).filter (fun k => decide (n₀ ≤ k))) := fun hx => by
    have := h.off hF g hx (foot_mem.2 (.inl rfl))
    exact (h.rt.kinds.2.2.2.1 qb hown).1 this.symm
  have hBg := h.rt.B.fr hkb.fr hgo
  have key := h.rt.qturn (w' := w') (vq' := Rc.vq) (q' := q1 ++ x' :: q2) hkb.fr (Nat.le_trans hb0 h.sz) (fun z hz hm => .inr (by rw [h.off hF z hz hm]; exact hown)) hBg hL (fun z hz => .inl hz)
  refine ⟨key.1, h.ft, hvs, h.kb.trans (hkb.weak (by
    intro z hz
    rcases List.mem_cons.1 hz with e | e
    · exact List.mem_append_left _ (e ▸ hbf)
    · exact List.mem_append_right _ e)), hkb.bk h.bx hbx.1 (by
    simp only [List.mem_cons, not_or]
    exact ⟨fun e => hbx.2.1 (e ▸ hbf), hbx.2.2⟩), Nat.le_trans h.sz hkb.size⟩
end
end Go.Proofs.YtdcppdgnekhcgaaGreatDoor
