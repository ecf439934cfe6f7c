/-
  Roots in general: what lies in memory (with ghosts for frames), what stays when something else turns, what a thread, the handles or the queue become.
-/
import Derived.Test.YtdcppdgnekhcgaaGreatDoorRt3
namespace Go.Proofs.YtdcppdgnekhcgaaGreatDoor
open Go.RowKit
set_option maxRecDepth 100000
set_option linter.unusedVariables false

def iV (l : List Int) : List Value := l.map (Value.int .i64)
theorem iV_at {l : List Int} {i : Nat} {x : Int} (h : l[i]? = some x) : (iV l)[i]? = some (.int .i64 x) := by
  unfold iV
  rw [List.getElem?_map, h]
  rfl
theorem iV_length (l : List Int) : (iV l).length = l.length := by simp [iV]
def hV : List (Bool × Int) → List Value
  | [] => []
  | p :: l => .bool p.1 :: .int .i64 p.2 :: hV l
theorem hV_length : ∀ l, (hV l).length = l.length * 2
  | [] => rfl
  | p :: l => by simp [hV, hV_length l]; omega
theorem hV_at : ∀ (l : List (Bool × Int)) (i : Nat) (p : Bool × Int), l[i]? = some p → (hV l)[i * 2]? = some (.bool p.1) ∧ (hV l)[i * 2 + 1]? = some (.int .i64 p.2)
  | [], i, p, h => by simp at h
  | q :: l, 0, p, h => by simp at h; subst h; simp [hV]
  | q :: l, i + 1, p, h => by
    have := hV_at l i p (by simpa using h)
    rw [show (i + 1) * 2 = i * 2 + 1 + 1 by omega]
    simpa [hV] using this
theorem hV_set : ∀ (l : List (Bool × Int)) (i : Nat) (p : Bool × Int), ((hV l).set (i * 2) (.bool p.1)).set (i * 2 + 1) (.int .i64 p.2) = hV (l.set i p)
  | [], i, p => by simp [hV]
  | q :: l, 0, p => by simp [hV]
  | q :: l, i + 1, p => by
    have := hV_set l i p
    rw [show (i + 1) * 2 = i * 2 + 1 + 1 by omega]
    simpa [hV] using this

structure Frm where
  b : Nat
  l : List Int
structure Thr where
  v : Value
  fs : List Frm
structure Rts where
  gT : Nat
  gH : Nat
  S : Nat
  ths : List Thr
  hs : List (Bool × Int)
  vq : Value
  q : List Int
def frV (f : Frm) : Value := .slice (some ⟨f.b, 0, none⟩) f.l.length f.l.length
def Thr.ib (t : Thr) : List Nat := t.fs.map Frm.b
def Thr.fb (t : Thr) : List Nat := t.v.ownBlock.toList
def Rts.ib (R : Rts) : List Nat := R.vq.ownBlock.toList ++ R.ths.flatMap Thr.ib
def Rts.fb (R : Rts) : List Nat := R.ths.flatMap Thr.fb
def Rts.foot (R : Rts) (g : Nat) : List Nat := g :: R.gT :: R.gH :: (R.ib ++ R.fb)
def sumL (fs : List (List Int)) : Nat := (fs.map List.length).sum
def Thr.ls (t : Thr) : List (List Int) := t.fs.map Frm.l

structure RT (b0 : Nat) (w : World) (g : Nat) (R : Rts) : Prop where
  B : Bk w g 84 #[.int .i64 R.S, .slice (some ⟨R.gT, 0, none⟩) R.ths.length R.ths.length, .slice (some ⟨R.gH, 0, none⟩) R.hs.length R.hs.length, R.vq]
  Th : Bk w R.gT 30 (R.ths.map Thr.v).toArray
  Fs : ∀ t ∈ R.ths, Lst w b0 29 1 t.v t.fs.length (t.fs.map frV)
  Fr : ∀ t ∈ R.ths, ∀ f ∈ t.fs, Bk w f.b 3 (iV f.l).toArray
  Hd : Bk w R.gH 87 (hV R.hs).toArray
  Q : Lst w b0 3 1 R.vq R.q.length (iV R.q)
  ndI : R.ib.Nodup
  ndF : R.fb.Nodup
  base : ∀ x ∈ R.foot g, b0 ≤ x
  ok : 1 ≤ R.ths.length ∧ R.ths.length ≤ 8 ∧ 1 ≤ R.S ∧ R.S ≤ 4096 ∧ R.hs.length ≤ 1024
  room : ∀ t ∈ R.ths, sumL t.ls ≤ R.S
  one : ∀ t ∈ R.ths, ∀ f ∈ t.fs, 1 ≤ f.l.length

section
variable {b0 : Nat} {w w' : World} {g : Nat} {R : Rts}
theorem foot_mem {x : Nat} : x ∈ R.foot g ↔ x = g ∨ x = R.gT ∨ x = R.gH ∨ R.vq.ownBlock = some x ∨ (∃ t ∈ R.ths, ∃ f ∈ t.fs, f.b = x) ∨ ∃ t ∈ R.ths, t.v.ownBlock = some x := by
  simp only [Rts.foot, Rts.ib, Rts.fb, Thr.ib, Thr.fb, List.mem_cons, List.mem_append, List.mem_flatMap, List.mem_map, Option.mem_toList, or_assoc]
theorem RT.lt (h : RT b0 w g R) : ∀ x ∈ R.foot g, x < w.heap.size := by
  intro x hx
  rcases foot_mem.1 hx with rfl | rfl | rfl | hx | ⟨t, ht, f, hf, rfl⟩ | ⟨t, ht, hx⟩
  · exact h.B.lt
  · exact h.Th.lt
  · exact h.Hd.lt
  · exact (h.Q.lt x hx).2
  · exact (h.Fr t ht f hf).lt
  · exact ((h.Fs t ht).lt x hx).2
theorem RT.fr {S : List Nat} (h : RT b0 w g R) (hf : Go.Proofs.YtdcppdgnekhcgaaGreatDoor.Fr S w w') (hS : ∀ x ∈ R.foot g, x ∉ S) : RT b0 w' g R where
  B := h.B.fr hf (hS _ (foot_mem.2 (.inl rfl)))
  Th := h.Th.fr hf (hS _ (foot_mem.2 (.inr (.inl rfl))))
  Fs := fun t ht => (h.Fs t ht).fr hf (fun k hk => hS k (foot_mem.2 (.inr (.inr (.inr (.inr (.inr ⟨t, ht, hk⟩)))))))
  Fr := fun t ht f hff => (h.Fr t ht f hff).fr hf (hS _ (foot_mem.2 (.inr (.inr (.inr (.inr (.inl ⟨t, ht, f, hff, rfl⟩)))))))
  Hd := h.Hd.fr hf (hS _ (foot_mem.2 (.inr (.inr (.inl rfl)))))
  Q := h.Q.fr hf (fun k hk => hS k (foot_mem.2 (.inr (.inr (.inr (.inl hk))))))
  ndI := h.ndI
  ndF := h.ndF
  base := h.base
  ok := h.ok
  room := h.room
  one := h.one
theorem RT.nil (h : RT b0 w g R) (hf : Go.Proofs.YtdcppdgnekhcgaaGreatDoor.Fr [] w w') : RT b0 w' g R := h.fr hf (by simp)

/-- Blocks of other kinds are other blocks. -/
theorem RT.kinds (h : RT b0 w g R) : g ≠ R.gT ∧ g ≠ R.gH ∧ R.gT ≠ R.gH ∧ (∀ x, R.vq.ownBlock = some x → x ≠ g ∧ x ≠ R.gT ∧ x ≠ R.gH) ∧
    (∀ t ∈ R.ths, ∀ f ∈ t.fs, f.b ≠ g ∧ f.b ≠ R.gT ∧ f.b ≠ R.gH) ∧ (∀ t ∈ R.ths, ∀ x, t.v.ownBlock = some x → x ≠ g ∧ x ≠ R.gT ∧ x ≠ R.gH ∧ R.vq.ownBlock ≠ some x ∧ ∀ t' ∈ R.ths, ∀ f ∈ t'.fs, f.b ≠ x) := by
  refine ⟨h.B.ne h.Th (by decide), h.B.ne h.Hd (by decide), h.Th.ne h.Hd (by decide), fun x hx => ?_, fun t ht f hf => ?_, fun t ht x hx => ?_⟩
  · exact ⟨h.Q.ne_bk h.B (by decide) x hx, h.Q.ne_bk h.Th (by decide) x hx, h.Q.ne_bk h.Hd (by decide) x hx⟩
  · have := h.Fr t ht f hf
    exact ⟨this.ne h.B (by decide), this.ne h.Th (by decide), this.ne h.Hd (by decide)⟩
  · have := h.Fs t ht
    refine ⟨this.ne_bk h.B (by decide) x hx, this.ne_bk h.Th (by decide) x hx, this.ne_bk h.Hd (by decide) x hx, fun hq => ?_, fun t' ht' f hf e => ?_⟩
    · obtain ⟨c1, k1⟩ := this.bk hx
      obtain ⟨c2, k2⟩ := h.Q.bk hq
      exact k1.ne k2 (by decide) rfl
    · exact this.ne_bk (h.Fr t' ht' f hf) (by decide) x hx e.symm

/-- A thread becomes another one. -/
theorem RT.turn {A B : List Thr} {t t' : Thr} {S : List Nat} (h : RT b0 w g R) (hR : R.ths = A ++ t :: B) (hf : Go.Proofs.YtdcppdgnekhcgaaGreatDoor.Fr S w w') (hb0 : b0 ≤ w.heap.size)
    (hS : ∀ x ∈ S, x ∈ R.foot g → x = R.gT ∨ x ∈ t.fb ∨ x ∈ t.ib) (hT : Bk w' R.gT 30 ((A ++ t' :: B).map Thr.v).toArray) (hL : Lst w' b0 29 1 t'.v t'.fs.length (t'.fs.map frV))
    (hF : ∀ f ∈ t'.fs, Bk w' f.b 3 (iV f.l).toArray) (nI : ∀ x ∈ t'.ib, x ∈ t.ib ∨ w.heap.size ≤ x) (nF : ∀ x ∈ t'.fb, x ∈ t.fb ∨ w.heap.size ≤ x) (nd : t'.ib.Nodup) (hs : sumL t'.ls ≤ R.S) (h1 : ∀ f ∈ t'.fs, 1 ≤ f.l.length) :
    RT b0 w' g { R with ths := A ++ t' :: B } ∧ ∀ x ∈ ({ R with ths := A ++ t' :: B } : Rts).foot g, x ∈ R.foot g ∨ w.heap.size ≤ x := by
  have ht : t ∈ R.ths := by rw [hR]; simp
  obtain ⟨k1, k2, k3, k4, k5, k6⟩ := h.kinds
  have hnI := h.ndI
  have hnF := h.ndF
  unfold Rts.ib at hnI
  unfold Rts.fb at hnF
  rw [hR] at hnI hnF
  simp only [List.flatMap_append, List.flatMap_cons] at hnI hnF
  have hlt := h.lt
  have ltI : ∀ u ∈ R.ths, ∀ x ∈ u.ib, x < w.heap.size := fun u hu x hx => by
    obtain ⟨f, hf, rfl⟩ := List.mem_map.1 hx
    exact (h.Fr u hu f hf).lt
  have ltF : ∀ u ∈ R.ths, ∀ x ∈ u.fb, x < w.heap.size := fun u hu x hx => ((h.Fs u hu).lt x (by simpa [Thr.fb] using hx)).2
  have inAB : ∀ u, u ∈ A ∨ u ∈ B → u ∈ R.ths := fun u hu => by rw [hR]; rcases hu with h | h <;> simp [h]
  -- the others' blocks are none of this thread's
  have offI : ∀ u, u ∈ A ∨ u ∈ B → ∀ x ∈ u.ib, x ∉ t.ib := fun u hu x hx hx' => by
    have p := (List.nodup_append.1 hnI).2.1
    rcases hu with hu | hu
    · exact (List.nodup_append.1 p).2.2 x (List.mem_flatMap.2 ⟨u, hu, hx⟩) x (List.mem_append_left _ hx') rfl
    · exact (List.nodup_append.1 ((List.nodup_append.1 p).2.1)).2.2 x hx' x (List.mem_flatMap.2 ⟨u, hu, hx⟩) rfl
  have offQ : ∀ x, R.vq.ownBlock = some x → x ∉ t.ib := fun x hx hx' =>
    (List.nodup_append.1 hnI).2.2 x (by simp [hx]) x (List.mem_append_right _ (List.mem_append_left _ hx')) rfl
  have offF : ∀ u, u ∈ A ∨ u ∈ B → ∀ x ∈ u.fb, x ∉ t.fb := fun u hu x hx hx' => by
    rcases hu with hu | hu
    · exact (List.nodup_append.1 hnF).2.2 x (List.mem_flatMap.2 ⟨u, hu, hx⟩) x (List.mem_append_left _ hx') rfl
    · exact (List.nodup_append.1 ((List.nodup_append.1 hnF).2.1)).2.2 x hx' x (List.mem_flatMap.2 ⟨u, hu, hx⟩) rfl
  have kI : ∀ u ∈ R.ths, ∀ x ∈ u.ib, x ≠ R.gT ∧ x ∉ t.fb := fun u hu x hx => by
    obtain ⟨f, hf, rfl⟩ := List.mem_map.1 hx
    refine ⟨(k5 u hu f hf).2.1, fun hx' => ?_⟩
    exact (k6 t ht f.b (by simpa [Thr.fb] using hx')).2.2.2.2 u hu f hf rfl
  have kF : ∀ u ∈ R.ths, ∀ x ∈ u.fb, x ≠ R.gT ∧ x ∉ t.ib := fun u hu x hx => by
    refine ⟨(k6 u hu x (by simpa [Thr.fb] using hx)).2.1, fun hx' => ?_⟩
    obtain ⟨f, hf, e⟩ := List.mem_map.1 hx'
    exact (k6 u hu x (by simpa [Thr.fb] using hx)).2.2.2.2 t ht f hf e
  have sg : g ∉ S := fun hx => by
    rcases hS g hx (foot_mem.2 (.inl rfl)) with e | e | e
    · exact k1 e
    · exact (k6 t ht g (by simpa [Thr.fb] using e)).1 rfl
    · obtain ⟨f, hf, e⟩ := List.mem_map.1 e
      exact (k5 t ht f hf).1 e
  have sH : R.gH ∉ S := fun hx => by
    rcases hS _ hx (foot_mem.2 (.inr (.inr (.inl rfl)))) with e | e | e
    · exact k3 e.symm
    · exact (k6 t ht R.gH (by simpa [Thr.fb] using e)).2.2.1 rfl
    · obtain ⟨f, hf, e⟩ := List.mem_map.1 e
      exact (k5 t ht f hf).2.2 e
  have sQ : ∀ x, R.vq.ownBlock = some x → x ∉ S := fun x hq hx => by
    rcases hS x hx (foot_mem.2 (.inr (.inr (.inr (.inl hq))))) with e | e | e
    · exact (k4 x hq).2.1 e
    · exact (k6 t ht x (by simpa [Thr.fb] using e)).2.2.2.1 hq
    · exact offQ x hq e
  have sI : ∀ u, u ∈ A ∨ u ∈ B → ∀ x ∈ u.ib, x ∉ S := fun u hu x hx hxS => by
    obtain ⟨f0, hf0, e0⟩ := List.mem_map.1 hx
    rcases hS x hxS (foot_mem.2 (.inr (.inr (.inr (.inr (.inl ⟨u, inAB u hu, f0, hf0, e0⟩)))))) with e | e | e
    · exact (kI u (inAB u hu) x hx).1 e
    · exact (kI u (inAB u hu) x hx).2 e
    · exact offI u hu x hx e
  have sF : ∀ u, u ∈ A ∨ u ∈ B → ∀ x ∈ u.fb, x ∉ S := fun u hu x hx hxS => by
    rcases hS x hxS (foot_mem.2 (.inr (.inr (.inr (.inr (.inr ⟨u, inAB u hu, by simpa [Thr.fb] using hx⟩)))))) with e | e | e
    · exact (kF u (inAB u hu) x hx).1 e
    · exact offF u hu x hx e
    · exact (kF u (inAB u hu) x hx).2 e
  have memAB : ∀ u ∈ A ++ t' :: B, u = t' ∨ u ∈ A ∨ u ∈ B := fun u hu => by
    simp only [List.mem_append, List.mem_cons] at hu
    rcases hu with h | h | h
    · exact .inr (.inl h)
    · exact .inl h
    · exact .inr (.inr h)
  have hlen : R.ths.length = (A ++ t' :: B).length := by rw [hR]; simp
  have hmem : ∀ x ∈ ({ R with ths := A ++ t' :: B } : Rts).foot g, x ∈ R.foot g ∨ w.heap.size ≤ x := by
    intro x hx
    rcases foot_mem.1 hx with rfl | rfl | rfl | hx | ⟨u, hu, f, hf', rfl⟩ | ⟨u, hu, hx2⟩
    · exact .inl (foot_mem.2 (.inl rfl))
    · exact .inl (foot_mem.2 (.inr (.inl rfl)))
    · exact .inl (foot_mem.2 (.inr (.inr (.inl rfl))))
    · exact .inl (foot_mem.2 (.inr (.inr (.inr (.inl hx)))))
    · rcases memAB u hu with rfl | hu
      · rcases nI f.b (List.mem_map.2 ⟨f, hf', rfl⟩) with e | e
        · obtain ⟨f2, hf2, e⟩ := List.mem_map.1 e
          exact .inl (foot_mem.2 (.inr (.inr (.inr (.inr (.inl ⟨t, ht, f2, hf2, e⟩))))))
        · exact .inr e
      · exact .inl (foot_mem.2 (.inr (.inr (.inr (.inr (.inl ⟨u, inAB u hu, f, hf', rfl⟩))))))
    · rcases memAB u hu with rfl | hu
      · rcases nF x (by simp [Thr.fb, hx2]) with e | e
        · exact .inl (foot_mem.2 (.inr (.inr (.inr (.inr (.inr ⟨t, ht, by simpa [Thr.fb] using e⟩))))))
        · exact .inr e
      · exact .inl (foot_mem.2 (.inr (.inr (.inr (.inr (.inr ⟨u, inAB u hu, hx2⟩))))))
  refine ⟨⟨?_, hT, fun u hu => ?_, fun u hu f hff => ?_, h.Hd.fr hf sH, h.Q.fr hf sQ, ?_, ?_, fun x hx => ?_, ?_, fun u hu => ?_, fun u hu f hff => ?_⟩, hmem⟩
  · have := h.B.fr hf sg
    rw [hlen] at this
    exact this
  · rcases memAB u hu with rfl | hu
    · exact hL
    · exact (h.Fs u (inAB u hu)).fr hf (fun k hk => sF u hu k (by simp [Thr.fb, hk]))
  · rcases memAB u hu with rfl | hu
    · exact hF f hff
    · exact (h.Fr u (inAB u hu) f hff).fr hf (sI u hu f.b (List.mem_map.2 ⟨f, hff, rfl⟩))
  · show (R.vq.ownBlock.toList ++ (A ++ t' :: B).flatMap Thr.ib).Nodup
    simp only [List.flatMap_append, List.flatMap_cons]
    have p := List.nodup_append.1 hnI
    have p2 := List.nodup_append.1 p.2.1
    have p3 := List.nodup_append.1 p2.2.1
    have new : ∀ x ∈ t'.ib, ∀ u, u ∈ A ∨ u ∈ B → x ∉ u.ib := fun x hx u hu hxu => by
      rcases nI x hx with e | e
      · exact offI u hu x hxu e
      · have := ltI u (inAB u hu) x hxu; omega
    refine List.nodup_append.2 ⟨p.1, List.nodup_append.2 ⟨p2.1, List.nodup_append.2 ⟨nd, p3.2.1, fun x hx y hy e => ?_⟩, fun x hx y hy e => ?_⟩, fun x hx y hy e => ?_⟩
    · subst e
      obtain ⟨u, hu, hy⟩ := List.mem_flatMap.1 hy
      exact new x hx u (.inr hu) hy
    · subst e
      rcases List.mem_append.1 hy with hy | hy
      · obtain ⟨u, hu, hx⟩ := List.mem_flatMap.1 hx
        exact new x hy u (.inl hu) hx
      · exact p2.2.2 x hx x (List.mem_append_right _ hy) rfl
    · subst e
      rcases List.mem_append.1 hy with hy | hy
      · exact p.2.2 x hx x (List.mem_append_left _ hy) rfl
      · rcases List.mem_append.1 hy with hy | hy
        · have hq : R.vq.ownBlock = some x := by simpa using hx
          rcases nI x hy with e | e
          · exact offQ x hq e
          · have := (h.Q.lt x hq).2; omega
        · exact p.2.2 x hx x (List.mem_append_right _ (List.mem_append_right _ hy)) rfl
  · show ((A ++ t' :: B).flatMap Thr.fb).Nodup
    simp only [List.flatMap_append, List.flatMap_cons]
    have p2 := List.nodup_append.1 hnF
    have p3 := List.nodup_append.1 p2.2.1
    have new : ∀ x ∈ t'.fb, ∀ u, u ∈ A ∨ u ∈ B → x ∉ u.fb := fun x hx u hu hxu => by
      rcases nF x hx with e | e
      · exact offF u hu x hxu e
      · have := ltF u (inAB u hu) x hxu; omega
    refine List.nodup_append.2 ⟨p2.1, List.nodup_append.2 ⟨?_, p3.2.1, fun x hx y hy e => ?_⟩, fun x hx y hy e => ?_⟩
    · unfold Thr.fb
      cases t'.v.ownBlock <;> simp
    · subst e
      obtain ⟨u, hu, hy⟩ := List.mem_flatMap.1 hy
      exact new x hx u (.inr hu) hy
    · subst e
      rcases List.mem_append.1 hy with hy | hy
      · obtain ⟨u, hu, hx⟩ := List.mem_flatMap.1 hx
        exact new x hy u (.inl hu) hx
      · exact p2.2.2 x hx x (List.mem_append_right _ hy) rfl
  · rcases hmem x hx with e | e
    · exact h.base x e
    · omega
  · have := h.ok
    rw [hlen] at this
    exact this
  · rcases memAB u hu with rfl | hu
    · exact hs
    · exact h.room u (inAB u hu)
  · rcases memAB u hu with rfl | hu
    · exact h1 f hff
    · exact h.one u (inAB u hu) f hff

theorem RT.change {A B : List Thr} {t t' : Thr} {S : List Nat} (h : RT b0 w g R) (hR : R.ths = A ++ t :: B) (hf : Go.Proofs.YtdcppdgnekhcgaaGreatDoor.Fr S w w') (hb0 : b0 ≤ w.heap.size)
    (hS : ∀ x ∈ S, x = R.gT ∨ x ∈ t.fb ∨ x ∈ t.ib) (hT : Bk w' R.gT 30 ((A ++ t' :: B).map Thr.v).toArray) (hL : Lst w' b0 29 1 t'.v t'.fs.length (t'.fs.map frV))
    (hF : ∀ f ∈ t'.fs, Bk w' f.b 3 (iV f.l).toArray) (nI : ∀ x ∈ t'.ib, x ∈ t.ib ∨ w.heap.size ≤ x) (nF : ∀ x ∈ t'.fb, x ∈ t.fb ∨ w.heap.size ≤ x) (nd : t'.ib.Nodup) (hs : sumL t'.ls ≤ R.S) (h1 : ∀ f ∈ t'.fs, 1 ≤ f.l.length) :
    RT b0 w' g { R with ths := A ++ t' :: B } ∧ Go.Proofs.YtdcppdgnekhcgaaGreatDoor.Fr (R.foot g) w w' ∧ ∀ x ∈ ({ R with ths := A ++ t' :: B } : Rts).foot g, x ∈ R.foot g ∨ w.heap.size ≤ x := by
  have ht : t ∈ R.ths := by rw [hR]; simp
  have hSf : ∀ x ∈ S, x ∈ R.foot g := fun x hx => by
    rcases hS x hx with e | e | e
    · exact foot_mem.2 (.inr (.inl e))
    · exact foot_mem.2 (.inr (.inr (.inr (.inr (.inr ⟨t, ht, by simpa [Thr.fb] using e⟩)))))
    · obtain ⟨f, hf, e⟩ := List.mem_map.1 e
      exact foot_mem.2 (.inr (.inr (.inr (.inr (.inl ⟨t, ht, f, hf, e⟩)))))
  obtain ⟨k1, k2⟩ := h.turn hR hf hb0 (fun x hx _ => hS x hx) hT hL hF nI nF nd hs h1
  exact ⟨k1, hf.mono (fun x hx => .inl (hSf x hx)), k2⟩

/-- The handles become others. -/
theorem RT.hturn {hs' : List (Bool × Int)} {S : List Nat} (h : RT b0 w g R) (hf : Go.Proofs.YtdcppdgnekhcgaaGreatDoor.Fr S w w') (hS : ∀ x ∈ S, x ∈ R.foot g → x = R.gH) (hl : hs'.length = R.hs.length) (hH : Bk w' R.gH 87 (hV hs').toArray) :
    RT b0 w' g { R with hs := hs' } := by
  obtain ⟨k1, k2, k3, k4, k5, k6⟩ := h.kinds
  have off : ∀ x, x ∈ R.foot g → x ≠ R.gH → x ∉ S := fun x hm hx hx' => hx (hS x hx' hm)
  have m1 : g ∈ R.foot g := foot_mem.2 (.inl rfl)
  have m2 : R.gT ∈ R.foot g := foot_mem.2 (.inr (.inl rfl))
  have m3 : ∀ t ∈ R.ths, ∀ x, t.v.ownBlock = some x → x ∈ R.foot g := fun t ht x hx => foot_mem.2 (.inr (.inr (.inr (.inr (.inr ⟨t, ht, hx⟩)))))
  have m4 : ∀ t ∈ R.ths, ∀ f ∈ t.fs, f.b ∈ R.foot g := fun t ht f hf => foot_mem.2 (.inr (.inr (.inr (.inr (.inl ⟨t, ht, f, hf, rfl⟩)))))
  have m5 : ∀ x, R.vq.ownBlock = some x → x ∈ R.foot g := fun x hx => foot_mem.2 (.inr (.inr (.inr (.inl hx))))
  refine ⟨?_, h.Th.fr hf (off _ m2 k3), fun t ht => (h.Fs t ht).fr hf (fun x hx => off _ (m3 t ht x hx) (k6 t ht x hx).2.2.1), fun t ht f hff => (h.Fr t ht f hff).fr hf (off _ (m4 t ht f hff) (k5 t ht f hff).2.2), hH, h.Q.fr hf (fun x hx => off _ (m5 x hx) (k4 x hx).2.2), h.ndI, h.ndF, h.base, ?_, h.room, h.one⟩
  · have := h.B.fr hf (off _ m1 k2)
    rw [← hl] at this
    exact this
  · have := h.ok
    rw [← hl] at this
    exact this

theorem RT.hchange {hs' : List (Bool × Int)} {S : List Nat} (h : RT b0 w g R) (hf : Go.Proofs.YtdcppdgnekhcgaaGreatDoor.Fr S w w') (hS : ∀ x ∈ S, x = R.gH) (hl : hs'.length = R.hs.length) (hH : Bk w' R.gH 87 (hV hs').toArray) :
    RT b0 w' g { R with hs := hs' } ∧ Go.Proofs.YtdcppdgnekhcgaaGreatDoor.Fr (R.foot g) w w' ∧ ∀ x ∈ ({ R with hs := hs' } : Rts).foot g, x ∈ R.foot g ∨ w.heap.size ≤ x := 
  ⟨h.hturn hf (fun x hx _ => hS x hx) hl hH, hf.mono (fun x hx => .inl (foot_mem.2 (.inr (.inr (.inl (hS x hx)))))), fun x hx => .inl hx⟩

/-- The queue becomes another one. -/
theorem RT.qturn {vq' : Value} {q' : List Int} {S : List Nat} (h : RT b0 w g R) (hf : Go.Proofs.YtdcppdgnekhcgaaGreatDoor.Fr S w w') (hb0 : b0 ≤ w.heap.size) (hS : ∀ x ∈ S, x ∈ R.foot g → x = g ∨ R.vq.ownBlock = some x)
    (hB : Bk w' g 84 #[.int .i64 R.S, .slice (some ⟨R.gT, 0, none⟩) R.ths.length R.ths.length, .slice (some ⟨R.gH, 0, none⟩) R.hs.length R.hs.length, vq'])
    (hQ : Lst w' b0 3 1 vq' q'.length (iV q')) (hn : ∀ x, vq'.ownBlock = some x → R.vq.ownBlock = some x ∨ w.heap.size ≤ x) :
    RT b0 w' g { R with vq := vq', q := q' } ∧ ∀ x ∈ ({ R with vq := vq', q := q' } : Rts).foot g, x ∈ R.foot g ∨ w.heap.size ≤ x := by
  obtain ⟨k1, k2, k3, k4, k5, k6⟩ := h.kinds
  have hnI := h.ndI
  unfold Rts.ib at hnI
  have p := List.nodup_append.1 hnI
  have offI : ∀ t ∈ R.ths, ∀ f ∈ t.fs, R.vq.ownBlock ≠ some f.b := fun t ht f hff e => p.2.2 f.b (by simp [e]) f.b (List.mem_flatMap.2 ⟨t, ht, List.mem_map.2 ⟨f, hff, rfl⟩⟩) rfl
  have off : ∀ x, x ∈ R.foot g → x ≠ g → R.vq.ownBlock ≠ some x → x ∉ S := fun x hm hx hq hx' => by
    rcases hS x hx' hm with e | e
    · exact hx e
    · exact hq e
  have hmem : ∀ x ∈ ({ R with vq := vq', q := q' } : Rts).foot g, x ∈ R.foot g ∨ w.heap.size ≤ x := by
    intro x hx
    rcases foot_mem.1 hx with e | e | e | e | e | e
    · exact .inl (foot_mem.2 (.inl e))
    · exact .inl (foot_mem.2 (.inr (.inl e)))
    · exact .inl (foot_mem.2 (.inr (.inr (.inl e))))
    · rcases hn x e with e | e
      · exact .inl (foot_mem.2 (.inr (.inr (.inr (.inl e)))))
      · exact .inr e
    · exact .inl (foot_mem.2 (.inr (.inr (.inr (.inr (.inl e))))))
    · exact .inl (foot_mem.2 (.inr (.inr (.inr (.inr (.inr e))))))
  have m2 : R.gT ∈ R.foot g := foot_mem.2 (.inr (.inl rfl))
  have m2' : R.gH ∈ R.foot g := foot_mem.2 (.inr (.inr (.inl rfl)))
  have m3 : ∀ t ∈ R.ths, ∀ x, t.v.ownBlock = some x → x ∈ R.foot g := fun t ht x hx => foot_mem.2 (.inr (.inr (.inr (.inr (.inr ⟨t, ht, hx⟩)))))
  have m4 : ∀ t ∈ R.ths, ∀ f ∈ t.fs, f.b ∈ R.foot g := fun t ht f hf => foot_mem.2 (.inr (.inr (.inr (.inr (.inl ⟨t, ht, f, hf, rfl⟩)))))
  refine ⟨⟨hB, h.Th.fr hf (off _ m2 k1.symm (fun e => (k4 _ e).2.1 rfl)), fun t ht => (h.Fs t ht).fr hf (fun x hx => off _ (m3 t ht x hx) (k6 t ht x hx).1 (k6 t ht x hx).2.2.2.1), fun t ht f hff => (h.Fr t ht f hff).fr hf (off _ (m4 t ht f hff) (k5 t ht f hff).1 (offI t ht f hff)), h.Hd.fr hf (off _ m2' k2.symm (fun e => (k4 _ e).2.2 rfl)), hQ, ?_, h.ndF, fun x hx => ?_, h.ok, h.room, h.one⟩, hmem⟩
  · show (vq'.ownBlock.toList ++ R.ths.flatMap Thr.ib).Nodup
    refine List.nodup_append.2 ⟨by cases vq'.ownBlock <;> simp, p.2.1, fun x hx y hy e => ?_⟩
    subst e
    rcases hn x (by simpa using hx) with e | e
    · exact p.2.2 x (by simp [e]) x hy rfl
    · obtain ⟨t, ht, hy⟩ := List.mem_flatMap.1 hy
      obtain ⟨f, hff, rfl⟩ := List.mem_map.1 hy
      have := (h.Fr t ht f hff).lt
      omega
  · rcases hmem x hx with e | e
    · exact h.base x e
    · omega
theorem RT.qchange {vq' : Value} {q' : List Int} {S : List Nat} (h : RT b0 w g R) (hf : Go.Proofs.YtdcppdgnekhcgaaGreatDoor.Fr S w w') (hb0 : b0 ≤ w.heap.size) (hS : ∀ x ∈ S, x = g ∨ R.vq.ownBlock = some x)
    (hB : Bk w' g 84 #[.int .i64 R.S, .slice (some ⟨R.gT, 0, none⟩) R.ths.length R.ths.length, .slice (some ⟨R.gH, 0, none⟩) R.hs.length R.hs.length, vq'])
    (hQ : Lst w' b0 3 1 vq' q'.length (iV q')) (hn : ∀ x, vq'.ownBlock = some x → R.vq.ownBlock = some x ∨ w.heap.size ≤ x) :
    RT b0 w' g { R with vq := vq', q := q' } ∧ Go.Proofs.YtdcppdgnekhcgaaGreatDoor.Fr (R.foot g) w w' ∧ ∀ x ∈ ({ R with vq := vq', q := q' } : Rts).foot g, x ∈ R.foot g ∨ w.heap.size ≤ x := by
  obtain ⟨k1, k2⟩ := h.qturn hf hb0 (fun x hx _ => hS x hx) hB hQ hn
  refine ⟨k1, hf.mono (fun x hx => .inl ?_), k2⟩
  rcases hS x hx with e | e
  · exact foot_mem.2 (.inl e)
  · exact foot_mem.2 (.inr (.inr (.inr (.inl e))))
end
end Go.Proofs.YtdcppdgnekhcgaaGreatDoor
