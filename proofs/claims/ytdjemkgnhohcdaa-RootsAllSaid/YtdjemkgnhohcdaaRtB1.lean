/-
  Roots, the document's answer in memory: its state, Handles, Queue, Handle, Close, Enqueue, Dequeue, Open, place, Get.
-/
import Derived.Test.YtdjemkgnhohcdaaRtS9
import Derived.Test.YtdjemkgnhohcdaaRtH1
import Derived.Deep.RegionWith
import Derived.Shelf.Abstract
import Derived.Test.YtdjemkgnhohcdaaRtS5
import Derived.BigQuiet
namespace Go.Proofs.Ytdjemkgnhohcdaa
open Go.RowKit
set_option linter.unusedVariables false

/-- Lists of numbers, each known whole, no two on one block. -/
structure Pk (w : World) (b0 : Nat) (M : List (Value × List Int)) : Prop where
  at_ : ∀ (i : Nat) (p : Value × List Int), M[i]? = some p → Lst w b0 3 1 p.1 p.2.length (iV p.2)
  apart : ∀ (i j : Nat) (p q : Value × List Int) (k : Nat), i ≠ j → M[i]? = some p → M[j]? = some q → p.1.ownBlock = some k → q.1.ownBlock ≠ some k
/-- The blocks they lie on. -/
def footM (M : List (Value × List Int)) : List Nat := M.flatMap (fun p => p.1.ownBlock.toList)
theorem footM_at {M : List (Value × List Int)} {i : Nat} {p : Value × List Int} (h : M[i]? = some p) {k : Nat} (hk : p.1.ownBlock = some k) : k ∈ footM M := by
  unfold footM
  rw [List.mem_flatMap]
  exact ⟨p, List.mem_of_getElem? h, by simp [hk]⟩
theorem footM_of {M : List (Value × List Int)} {k : Nat} (h : k ∈ footM M) : ∃ (i : Nat) (p : Value × List Int), M[i]? = some p ∧ p.1.ownBlock = some k := by
  unfold footM at h
  rw [List.mem_flatMap] at h
  obtain ⟨p, hp, hk⟩ := h
  obtain ⟨i, hi⟩ := List.mem_iff_getElem?.1 hp
  exact ⟨i, p, hi, by simpa using hk⟩
section
variable {w w' : World} {b0 : Nat} {M : List (Value × List Int)}
theorem Pk.fr {S : List Nat} (h : Pk w b0 M) (hf : Fr S w w') (hS : ∀ x ∈ S, x ∉ footM M) : Pk w' b0 M :=
  ⟨fun i p hi => (h.at_ i p hi).fr hf (fun k hk hx => hS k hx (footM_at hi hk)), h.apart⟩
theorem Pk.lt (h : Pk w b0 M) {k : Nat} (hk : k ∈ footM M) : b0 ≤ k ∧ k < w.heap.size := by
  obtain ⟨i, p, hi, hp⟩ := footM_of hk
  exact (h.at_ i p hi).lt k hp
/-- One of them turned. -/
theorem Pk.set {i : Nat} {p : Value × List Int} {v' : Value} {l' : List Int} (h : Pk w b0 M) (hi : M[i]? = some p) (hf : Fr p.1.ownBlock.toList w w') (hL : Lst w' b0 3 1 v' l'.length (iV l'))
    (hv : ∀ k, v'.ownBlock = some k → p.1.ownBlock = some k ∨ w.heap.size ≤ k) : Pk w' b0 (M.set i (v', l')) ∧ ∀ k ∈ footM (M.set i (v', l')), k ∈ footM M ∨ w.heap.size ≤ k := by
  have hlt : i < M.length := (List.getElem?_eq_some_iff.1 hi).1
  have key : ∀ (j : Nat) (q : Value × List Int), (M.set i (v', l'))[j]? = some q → (j = i ∧ q = (v', l')) ∨ (j ≠ i ∧ M[j]? = some q) := fun j q hj => by
    by_cases e : j = i
    · subst e
      rw [List.getElem?_set_self hlt] at hj
      injection hj with hj
      exact .inl ⟨rfl, hj.symm⟩
    · rw [List.getElem?_set_ne (Ne.symm e)] at hj
      exact .inr ⟨e, hj⟩
  have far : ∀ (j : Nat) (q : Value × List Int), j ≠ i → M[j]? = some q → ∀ k, q.1.ownBlock = some k → v'.ownBlock ≠ some k := fun j q hj hq k hk hv' => by
    rcases hv k hv' with e | e
    · exact h.apart j i q p k hj hq hi hk e
    · have := ((h.at_ j q hq).lt k hk).2
      omega
  refine ⟨⟨fun j q hj => ?_, fun j j' q q' k hne hj hj' hk => ?_⟩, fun k hk => ?_⟩
  · rcases key j q hj with ⟨rfl, rfl⟩ | ⟨hne, hq⟩
    · exact hL
    · exact (h.at_ j q hq).fr hf (fun k hk hx => h.apart j i q p k hne hq hi hk (by simpa using hx))
  · rcases key j q hj with ⟨rfl, rfl⟩ | ⟨h1, hq⟩ <;> rcases key j' q' hj' with ⟨rfl, rfl⟩ | ⟨h2, hq'⟩
    · exact absurd rfl hne
    · intro hk'
      exact far j' q' h2 hq' k hk' hk
    · exact far j q h1 hq k hk
    · exact h.apart j j' q q' k hne hq hq' hk
  · obtain ⟨j, q, hj, hk⟩ := footM_of hk
    rcases key j q hj with ⟨rfl, rfl⟩ | ⟨h1, hq⟩
    · rcases hv k hk with e | e
      · exact .inl (footM_at hi e)
      · exact .inr e
    · exact .inl (footM_at hq hk)
end
end Go.Proofs.Ytdjemkgnhohcdaa
namespace Go.Proofs.Ytdjemkgnhohcdaa
open Go.RowKit
set_option linter.unusedVariables false

/-- A thread of the document: where its slots and its frames' beginnings lie; its frames. -/
structure Dt where
  v1 : Value
  v2 : Value
  ls : List (List Int)
/-- The document's roots. -/
structure Dr where
  vt : Value
  S : Nat
  ts : List Dt
  vh : Value
  hs : List (Bool × Int)
  vq : Value
  q : List Int
def begL (ls : List (List Int)) : List Int := (List.range ls.length).map (fun k => ((sumL (ls.take k) : Nat) : Int))
def hsL (hs : List (Bool × Int)) : List Int := hs.map (fun p => if p.1 then p.2 else -1)
def Dt.M (t : Dt) : List (Value × List Int) := [(t.v1, t.ls.flatten), (t.v2, begL t.ls)]
def Dr.M (R : Dr) : List (Value × List Int) := (R.vh, hsL R.hs) :: (R.vq, R.q) :: R.ts.flatMap Dt.M
def Dr.abs (R : Dr) : RA := ⟨R.S, R.ts.map Dt.ls, R.hs, R.q⟩
def Dr.foot (R : Dr) (g : Nat) : List Nat := g :: (R.vt.ownBlock.toList ++ footM R.M)
structure DT (b0 : Nat) (w : World) (g : Nat) (R : Dr) : Prop where
  B : Bk w g 71 #[R.vt, .int .i64 R.S, R.vh, R.vq]
  Th : Lst w b0 73 2 R.vt R.ts.length (R.ts.flatMap (fun t => [t.v1, t.v2]))
  P : Pk w b0 R.M
  gb : b0 ≤ g
  ok : R.ts.length ≤ 8 ∧ R.S ≤ 4096 ∧ R.hs.length ≤ 1024
  room : ∀ t ∈ R.ts, sumL t.ls ≤ R.S
  one : ∀ t ∈ R.ts, ∀ l ∈ t.ls, 1 ≤ l.length
  nn : ∀ p ∈ R.hs, 0 ≤ p.2
def DS (b0 : Nat) (w : World) (g : Nat) (a : RA) (F : List Nat) : Prop := ∃ R, DT b0 w g R ∧ R.abs = a ∧ R.foot g = F
def DO (b0 g : Nat) (a' : RA) (F : List Nat) (r : Value) (w : World) (e : Ending) (w' : World) : Prop :=
  e = .returned r ∧ ∃ F', DS b0 w' g a' F' ∧ Fr F w w' ∧ ∀ x ∈ F', x ∈ F ∨ w.heap.size ≤ x
section
variable {b0 : Nat} {w w' : World} {g : Nat} {R : Dr}
theorem Dr.M0 (R : Dr) : R.M[0]? = some (R.vh, hsL R.hs) := rfl
theorem Dr.M1 (R : Dr) : R.M[1]? = some (R.vq, R.q) := rfl
theorem DT.H (h : DT b0 w g R) : Lst w b0 3 1 R.vh R.hs.length (iV (hsL R.hs)) := by
  have := h.P.at_ 0 _ R.M0
  simpa [hsL] using this
theorem DT.Q (h : DT b0 w g R) : Lst w b0 3 1 R.vq R.q.length (iV R.q) := h.P.at_ 1 _ R.M1
theorem DT.foot_lt (h : DT b0 w g R) : ∀ x ∈ R.foot g, b0 ≤ x ∧ x < w.heap.size := fun x hx => by
  unfold Dr.foot at hx
  rw [List.mem_cons, List.mem_append] at hx
  rcases hx with rfl | hx | hx
  · exact ⟨h.gb, h.B.lt⟩
  · exact h.Th.lt x (by simpa using hx)
  · exact h.P.lt hx
theorem DT.fr {S : List Nat} (h : DT b0 w g R) (hf : Fr S w w') (hS : ∀ x ∈ R.foot g, x ∉ S) : DT b0 w' g R where
  B := h.B.fr hf (hS g (List.mem_cons_self ..))
  Th := h.Th.fr hf (fun k hk => hS k (by unfold Dr.foot; rw [List.mem_cons, List.mem_append]; exact .inr (.inl (by simp [hk]))))
  P := h.P.fr hf (fun x hx hm => hS x (by unfold Dr.foot; rw [List.mem_cons, List.mem_append]; exact .inr (.inr hm)) hx)
  gb := h.gb
  ok := h.ok
  room := h.room
  one := h.one
  nn := h.nn
theorem DT.nil (h : DT b0 w g R) (hf : Fr [] w w') : DT b0 w' g R := h.fr hf (by simp)
theorem DT.nog (h : DT b0 w g R) {k : Nat} (hk : k ∈ footM R.M) : k ≠ g ∧ k ∉ R.vt.ownBlock.toList := by
  obtain ⟨i, p, hi, hp⟩ := footM_of hk
  exact ⟨(h.P.at_ i p hi).ne_bk h.B (by decide) k hp, (h.P.at_ i p hi).ne_lst h.Th (by decide) k hp⟩
/-- The handles turned where they lie. -/
theorem DT.turn0 {hs' : List (Bool × Int)} (h : DT b0 w g R) (hf : Fr R.vh.ownBlock.toList w w') (hL : Lst w' b0 3 1 R.vh R.hs.length (iV (hsL hs'))) (hl : hs'.length = R.hs.length) (hn : ∀ p ∈ hs', 0 ≤ p.2) :
    DT b0 w' g { R with hs := hs' } ∧ ∀ x ∈ Dr.foot { R with hs := hs' } g, x ∈ R.foot g ∨ w.heap.size ≤ x := by
  have hin : ∀ k, R.vh.ownBlock = some k → k ∈ footM R.M := fun k hk => footM_at R.M0 hk
  have e : (hsL hs').length = R.hs.length := by unfold hsL; rw [List.length_map, hl]
  obtain ⟨p1, p2⟩ := h.P.set (v' := R.vh) (l' := hsL hs') R.M0 hf (by rw [e]; exact hL) (fun k hk => .inl hk)
  refine ⟨⟨h.B.fr hf (fun hx => (h.nog (hin g (by simpa using hx))).1 rfl), h.Th.fr hf (fun k hk hx => (h.nog (hin k (by simpa using hx))).2 (by simp [hk])), p1, h.gb, ⟨h.ok.1, h.ok.2.1, by show hs'.length ≤ 1024; rw [hl]; exact h.ok.2.2⟩, h.room, h.one, hn⟩, fun x hx => ?_⟩
  unfold Dr.foot at hx ⊢
  rw [List.mem_cons, List.mem_append] at hx ⊢
  rcases hx with rfl | hx | hx
  · exact .inl (.inl rfl)
  · exact .inl (.inr (.inl hx))
  · rcases p2 x hx with e | e
    · exact .inl (.inr (.inr e))
    · exact .inr e
/-- Another queue. -/
theorem DT.turn1 {q' : List Int} {v' : Value} {w1 : World} (h : DT b0 w g R) (hf : Fr R.vq.ownBlock.toList w w1) (hL : Lst w1 b0 3 1 v' q'.length (iV q')) (hv : ∀ k, v'.ownBlock = some k → R.vq.ownBlock = some k ∨ w.heap.size ≤ k) :
    DT b0 (w1.setCell ⟨g, 3, none⟩ v') g { R with vq := v', q := q' } ∧ ∀ x ∈ Dr.foot { R with vq := v', q := q' } g, x ∈ R.foot g ∨ w.heap.size ≤ x := by
  have hin : ∀ k, R.vq.ownBlock = some k → k ∈ footM R.M := fun k hk => footM_at R.M1 hk
  obtain ⟨p1, p2⟩ := h.P.set (v' := v') (l' := q') R.M1 hf hL hv
  have hB1 := h.B.fr hf (fun hx => (h.nog (hin g (by simpa using hx))).1 rfl)
  have hT1 := h.Th.fr hf (fun k hk hx => (h.nog (hin k (by simpa using hx))).2 (by simp [hk]))
  have hf2 : Fr [g] w1 (w1.setCell ⟨g, 3, none⟩ v') := (Fr.refl _ _).setCell (by simp) _
  have hgP : ∀ x ∈ [g], x ∉ footM (R.M.set 1 (v', q')) := fun x hx hm => by
    simp only [List.mem_cons, List.not_mem_nil, or_false] at hx
    subst hx
    obtain ⟨i, p, hi, hp⟩ := footM_of hm
    exact (p1.at_ i p hi).ne_bk hB1 (by decide) x hp rfl
  refine ⟨⟨hB1.put 3 v', hT1.far (p := ⟨g, 3, none⟩) (fun k hk => hT1.ne_bk hB1 (by decide) k hk) v', p1.fr hf2 hgP, h.gb, h.ok, h.room, h.one, h.nn⟩, fun x hx => ?_⟩
  unfold Dr.foot at hx ⊢
  rw [List.mem_cons, List.mem_append] at hx ⊢
  rcases hx with rfl | hx | hx
  · exact .inl (.inl rfl)
  · exact .inl (.inr (.inl hx))
  · rcases p2 x hx with e | e
    · exact .inl (.inr (.inr e))
    · exact .inr e
end
end Go.Proofs.Ytdjemkgnhohcdaa
namespace Go.Proofs.Ytdjemkgnhohcdaa
open Go.RowKit
set_option linter.unusedVariables false

theorem DS.fr {b0 : Nat} {w w' : World} {g : Nat} {a : RA} {F S : List Nat} (h : DS b0 w g a F) (hf : Fr S w w') (hS : ∀ x ∈ F, x ∉ S) : DS b0 w' g a F := by
  obtain ⟨R, h1, h2, h3⟩ := h
  exact ⟨R, h1.fr hf (by rw [h3]; exact hS), h2, h3⟩
theorem DS.nil {b0 : Nat} {w w' : World} {g : Nat} {a : RA} {F : List Nat} (h : DS b0 w g a F) (hf : Fr [] w w') : DS b0 w' g a F := h.fr hf (by simp)
theorem DO.same {b0 : Nat} {w : World} {g : Nat} {a : RA} {F : List Nat} {r : Value} {w' : World} (h : DS b0 w g a F) (hf : Fr [] w w') : DO b0 g a F r w (.returned r) w' := ⟨rfl, F, h.nil hf, hf.mono (by simp), fun x hx => .inl hx⟩

theorem is_any {b0 : Nat} {w : World} {g : Nat} {R : Dr} (h : DT b0 w g R) (i : Int) (W : World) (hW : W.cell? ⟨g, 0, none⟩ = w.cell? ⟨g, 0, none⟩) :
    Calls Try.prog 57 #[.pointer (some ⟨g, 0, none⟩), .int .i64 i] W fun e w' => e = .returned (.bool (inT R.abs i)) ∧ W = w' := by
  obtain ⟨A, c, hv, _, _⟩ := h.Th.look
  have c0 : W.cell? ⟨g, 0, none⟩ = some (.slice A R.ts.length c) := by rw [hW, ← hv]; exact h.B.cell 0
  have e : inT R.abs i = (decide (0 ≤ i) && decide (i < (R.ts.length : Int))) := by unfold inT Dr.abs; simp
  rw [e]
  have h8 := h.ok.1
  obtain ⟨n, hn⟩ : ∃ n, R.ts.length = n := ⟨_, rfl⟩
  rw [hn] at c0 h8 ⊢
  clear h hv hW e hn
  by_cases h0 : 0 ≤ i
  · by_cases h1 : i < (n : Int)
    · have d0 : decide (0 ≤ i) = true := decide_eq_true h0
      have d1 : decide (i < (n : Int)) = true := decide_eq_true h1
      rw [d0, d1]
      go_enter Try.func57, Try.ntmps57
      go_wp2_with fail
      go_ret
      exact ⟨rfl, rfl⟩
    · have d0 : decide (0 ≤ i) = true := decide_eq_true h0
      have d1 : decide (i < (n : Int)) = false := decide_eq_false h1
      rw [d0, d1]
      go_enter Try.func57, Try.ntmps57
      go_wp2_with fail
      go_ret
      exact ⟨rfl, rfl⟩
  · have d0 : decide (0 ≤ i) = false := decide_eq_false h0
    rw [d0]
    go_enter Try.func57, Try.ntmps57
    go_wp2_with fail
    go_ret
    exact ⟨rfl, rfl⟩

set_option maxHeartbeats 800000 in
theorem dhandles_any {b0 : Nat} {w : World} {g : Nat} {a : RA} {F : List Nat} (h : DS b0 w g a F) :
    Calls Try.prog 50 #[.pointer (some ⟨g, 0, none⟩)] w (NewL (handlesA a) w) := by
  obtain ⟨R, hR, rfl, rfl⟩ := h
  have hl := hR.ok.2.2
  have hH := hR.H
  have c2 : w.cell? ⟨g, 2, none⟩ = some R.vh := hR.B.cell 2
  have hA : handlesA R.abs = hsL R.hs := rfl
  have hlen : (hsL R.hs).length = R.hs.length := by unfold hsL; rw [List.length_map]
  rw [hA]
  obtain ⟨xs, hxs⟩ : ∃ xs, hsL R.hs = xs := ⟨_, rfl⟩
  obtain ⟨n, hn⟩ : ∃ n, R.hs.length = n := ⟨_, rfl⟩
  rw [hxs] at hH hlen ⊢
  rw [hn] at hH hl hlen
  obtain ⟨i2, hi2, hz2, hs2, hb2⟩ := info_parts int_info
  have HLEN := Lib.hid hlen
  clear hR hA hxs hn hlen
  rcases hH.2 with ⟨hv, h0⟩ | ⟨gb, off, cap, cur, hv, _⟩
  · rw [hv] at c2
    subst h0
    have hnil : xs = [] := List.eq_nil_of_length_eq_zero HLEN.out
    subst hnil
    clear hH hv
    go_enter Try.func50, Try.ntmps50
    go_wp2_with fail
    go_ret
    exact ⟨_, rfl, Lst.nil _ _ _ _, Fr.refl _ _⟩
  · rw [hv] at c2 hH
    have HN := Lib.hid (lst_news hH)
    clear hH hv
    go_enter Try.func50, Try.ntmps50
    go_wp2_with (at_builtin; refine wpList_append_lst _ rfl (.const (.slice none 0 0)) (.tmp 6) _ rfl w.heap.size 3 i2 _ 1 8 Try.underlying31 hi2 hz2 hs2 hb2 rfl (.slice none 0 0) 0 [] rfl (Lst.nil _ _ _ _) ⟨gb, off, none⟩ n cap (iV xs) rfl (by unfold iV; rw [List.length_map, HLEN.out, Nat.mul_one]) HN.out ?c2 ?c3 ?c4 ?c5 ?c6)
    case c2 => intro u hu; unfold iV at hu; obtain ⟨x, _, rfl⟩ := List.mem_map.1 hu; rfl
    case c3 => unfold maxLen; omega
    case c4 => omega
    case c5 => exact Nat.le_refl _
    case c6 =>
      intro v2 w1 hown hgrow hat
      have HX : Hid (NewL xs w (.returned v2) w1) := ⟨v2, rfl, by rw [HLEN.out]; simpa using hown, ((Fr.refl [] w).grown hgrow (fun k hk => by simp [Value.ownBlock] at hk))⟩
      clear hown hgrow hat
      go_wp2_with fail
      go_ret
      exact HX.out
end Go.Proofs.Ytdjemkgnhohcdaa
namespace Go.Proofs.Ytdjemkgnhohcdaa
open Go.RowKit
set_option linter.unusedVariables false

set_option maxHeartbeats 800000 in
theorem dqueue_any {b0 : Nat} {w : World} {g : Nat} {a : RA} {F : List Nat} (h : DS b0 w g a F) (hl5 : a.q.length ≤ 5000000000000) :
    Calls Try.prog 53 #[.pointer (some ⟨g, 0, none⟩)] w (NewL a.q w) := by
  obtain ⟨R, hR, rfl, rfl⟩ := h
  have hl : R.q.length ≤ 5000000000000 := hl5
  have hH := hR.Q
  have c2 : w.cell? ⟨g, 3, none⟩ = some R.vq := hR.B.cell 3
  have hA : R.abs.q = R.q := rfl
  have hlen : R.q.length = R.q.length := rfl
  rw [hA]
  obtain ⟨xs, hxs⟩ : ∃ xs, R.q = xs := ⟨_, rfl⟩
  rw [hxs] at hH hlen hl ⊢
  obtain ⟨n, hn⟩ : ∃ n, xs.length = n := ⟨_, rfl⟩
  rw [hn] at hH hl
  have hlen := hn
  obtain ⟨i2, hi2, hz2, hs2, hb2⟩ := info_parts int_info
  have HLEN := Lib.hid hlen
  clear hR hA hxs hn hlen hl5
  rcases hH.2 with ⟨hv, h0⟩ | ⟨gb, off, cap, cur, hv, _⟩
  · rw [hv] at c2
    subst h0
    have hnil : xs = [] := List.eq_nil_of_length_eq_zero HLEN.out
    subst hnil
    clear hH hv
    go_enter Try.func53, Try.ntmps53
    go_wp2_with fail
    go_ret
    exact ⟨_, rfl, Lst.nil _ _ _ _, Fr.refl _ _⟩
  · rw [hv] at c2 hH
    have HN := Lib.hid (lst_news hH)
    clear hH hv
    go_enter Try.func53, Try.ntmps53
    go_wp2_with (at_builtin; refine wpList_append_lst _ rfl (.const (.slice none 0 0)) (.tmp 6) _ rfl w.heap.size 3 i2 _ 1 8 Try.underlying31 hi2 hz2 hs2 hb2 rfl (.slice none 0 0) 0 [] rfl (Lst.nil _ _ _ _) ⟨gb, off, none⟩ n cap (iV xs) rfl (by unfold iV; rw [List.length_map, HLEN.out, Nat.mul_one]) HN.out ?c2 ?c3 ?c4 ?c5 ?c6)
    case c2 => intro u hu; unfold iV at hu; obtain ⟨x, _, rfl⟩ := List.mem_map.1 hu; rfl
    case c3 => unfold maxLen; omega
    case c4 => omega
    try (case c5 => exact Nat.le_refl _)
    case c6 =>
      intro v2 w1 hown hgrow hat
      have HX : Hid (NewL xs w (.returned v2) w1) := ⟨v2, rfl, by rw [HLEN.out]; simpa using hown, ((Fr.refl [] w).grown hgrow (fun k hk => by simp [Value.ownBlock] at hk))⟩
      clear hown hgrow hat
      go_wp2_with fail
      go_ret
      exact HX.out

theorem hsL_at {hs : List (Bool × Int)} {k : Nat} {p : Bool × Int} (h : hs[k]? = some p) : (hsL hs)[k]? = some (if p.1 then p.2 else -1) := by
  unfold hsL
  rw [List.getElem?_map, h]
  rfl
theorem hsL_set (hs : List (Bool × Int)) (k : Nat) (p : Bool × Int) : hsL (hs.set k p) = (hsL hs).set k (if p.1 then p.2 else -1) := by
  unfold hsL
  rw [List.map_set]
theorem handleA_no {a : RA} {n : Int} (h : isOpenA a n = false) : handleA a n = (0, 55) ∧ closeA a n = (a, 55) := by
  constructor
  · unfold handleA; rw [if_neg (by rw [h]; simp)]
  · unfold closeA; rw [if_neg (by rw [h]; simp)]

set_option maxHeartbeats 800000 in
theorem dhandle_any {b0 : Nat} {w : World} {g : Nat} {a : RA} {F : List Nat} (h : DS b0 w g a F) (n : Int) :
    Calls Try.prog 48 #[.pointer (some ⟨g, 0, none⟩), .int .i64 n] w fun e w' => e = .returned (.tuple #[.int .i64 (handleA a n).1, .int .i64 (handleA a n).2]) ∧ w = w' := by
  obtain ⟨R, hR, rfl, rfl⟩ := h
  have hH := hR.H
  have c2 : w.cell? ⟨g, 2, none⟩ = some R.vh := hR.B.cell 2
  have hl := hR.ok.2.2
  obtain ⟨A, c, hv, _, _⟩ := hH.look
  rw [hv] at c2 hH
  obtain ⟨m, hm⟩ : ∃ m, R.hs.length = m := ⟨_, rfl⟩
  rw [hm] at c2 hH hl
  have hnn := hR.nn
  have key : isOpenA R.abs n = (decide (0 ≤ n) && decide (n < (R.hs.length : Int)) && (R.hs.getD n.toNat (false, 0)).1) := rfl
  by_cases h0 : n < 0
  · have e := (handleA_no (a := R.abs) (n := n) (by rw [key, decide_eq_false (by omega)]; rfl)).1
    rw [e]
    have d0 : decide (n < 0) = true := decide_eq_true h0
    clear hH hR hv hm hnn key e
    go_enter Try.func48, Try.ntmps48
    go_wp2_with fail
    go_ret2
    exact ⟨rfl, rfl⟩
  · obtain ⟨k, rfl⟩ := Int.eq_ofNat_of_zero_le (show 0 ≤ n by omega)
    have d0 : decide ((k : Int) < 0) = false := decide_eq_false h0
    by_cases h1 : m ≤ k
    · have e := (handleA_no (a := R.abs) (n := (k : Int)) (by rw [key, decide_eq_false (show ¬ (k : Int) < (R.hs.length : Int) by omega)]; simp)).1
      rw [e]
      have d1 : decide ((m : Int) ≤ (k : Int)) = true := decide_eq_true (by omega)
      have d2 : decide (m ≤ k) = true := decide_eq_true h1
      clear hH hR hv hm hnn key e
      go_enter Try.func48, Try.ntmps48
      go_wp2_with fail
      go_ret2
      exact ⟨rfl, rfl⟩
    · obtain ⟨p, hp⟩ : ∃ p, R.hs[k]? = some p := ⟨_, List.getElem?_eq_getElem (by omega)⟩
      have d1 : decide ((m : Int) ≤ (k : Int)) = false := decide_eq_false (by omega)
      have d2 : decide (m ≤ k) = false := decide_eq_false h1
      obtain ⟨gb, off, cap, hv2, _, _, _, _, _, _, hc⟩ := hH.form (by omega)
      injection hv2 with hv2
      subst hv2
      have ck := hc k _ (iV_at (hsL_at hp))
      have i0 : (0 : Int) ≤ (k : Int) := by omega
      have i1 : (k : Int) < (m : Int) := by omega
      have hp0 := hnn p (List.mem_of_getElem? hp)
      obtain ⟨o, x⟩ := p
      cases o with
      | true =>
        have e := (handleA_at (a := R.abs) (q := k) (x := x) hp).1
        rw [e]
        have ck : w.cell? ⟨gb, off + k, none⟩ = some (.int .i64 x) := ck
        have d3 : decide (x < 0) = false := decide_eq_false (by have : 0 ≤ x := hp0; omega)
        clear hH hR hv hm hnn key e hc hp hp0
        go_enter Try.func48, Try.ntmps48
        go_wp2_with fail
        go_ret2
        exact ⟨rfl, rfl⟩
      | false =>
        have e := (handleA_no (a := R.abs) (n := (k : Int)) (by rw [key, Int.toNat_natCast, List.getD, hp]; simp)).1
        rw [e]
        have ck : w.cell? ⟨gb, off + k, none⟩ = some (.int .i64 (-1)) := ck
        clear hH hR hv hm hnn key e hc hp hp0
        go_enter Try.func48, Try.ntmps48
        go_wp2_with fail
        go_ret2
        exact ⟨rfl, rfl⟩
end Go.Proofs.Ytdjemkgnhohcdaa
namespace Go.Proofs.Ytdjemkgnhohcdaa
open Go.RowKit
set_option linter.unusedVariables false

theorem isOpenA_at {a : RA} {n : Int} (h : isOpenA a n = true) : ∃ (k : Nat) (x : Int), n = (k : Int) ∧ a.hs[k]? = some (true, x) := by
  unfold isOpenA at h
  simp only [Bool.and_eq_true, decide_eq_true_eq] at h
  obtain ⟨k, rfl⟩ := Int.eq_ofNat_of_zero_le h.1.1
  have hk : k < a.hs.length := by omega
  have h2 := h.2
  rw [Int.toNat_natCast, List.getD, List.getElem?_eq_getElem hk] at h2
  refine ⟨k, a.hs[k].2, rfl, ?_⟩
  rw [List.getElem?_eq_getElem hk]
  have h2 : a.hs[k].1 = true := h2
  rw [← h2]

set_option maxHeartbeats 800000 in
theorem dclose_any {b0 : Nat} {w : World} {g : Nat} {a : RA} {F : List Nat} (h : DS b0 w g a F) (n : Int) :
    Calls Try.prog 49 #[.pointer (some ⟨g, 0, none⟩), .int .i64 n] w (DO b0 g (closeA a n).1 F (.int .i64 (closeA a n).2) w) := by
  have HH := Lib.hid (dhandle_any h n)
  have HD := Lib.hid h
  obtain ⟨R, hR, rfl, rfl⟩ := h
  cases ho : isOpenA R.abs n with
  | false =>
    obtain ⟨e1, e2⟩ := handleA_no ho
    rw [e1] at HH
    rw [e2]
    clear hR ho e1 e2
    go_enter Try.func49, Try.ntmps49
    go_wp2_with fail
    refine (Calls.mono HH.out ?_)
    rintro e w' ⟨rfl, rfl⟩
    go_wp2_with fail
    go_ret
    exact DO.same HD.out (Fr.refl _ _)
  | true =>
    obtain ⟨k, x, rfl, hx⟩ := isOpenA_at ho
    have hx : R.hs[k]? = some (true, x) := hx
    obtain ⟨e1, e2⟩ := handleA_at (a := R.abs) hx
    rw [e1] at HH
    rw [e2]
    have hkl := (List.getElem?_eq_some_iff.1 hx).1
    have c2 : w.cell? ⟨g, 2, none⟩ = some R.vh := hR.B.cell 2
    have hH := hR.H
    obtain ⟨gb, off, cap, hv, _, _, _, _, hfz, _, hc⟩ := hH.form (by omega)
    rw [hv] at c2 hH
    have ck : w.cell? ⟨gb, off + k, none⟩ = some (.int .i64 x) := hc k _ (iV_at (hsL_at hx))
    have HE : Hid (DO b0 g { R.abs with hs := R.hs.set k (false, 0) } (R.foot g) (.int .i64 0) w (.returned (.int .i64 0)) (w.setCell ⟨gb, off + k, none⟩ (.int .i64 (-1)))) := by
      have hL := hH.put (j := k) (.int .i64 (-1))
      have e : (iV (hsL R.hs)).set k (.int .i64 (-1)) = iV (hsL (R.hs.set k (false, 0))) := by
        rw [hsL_set]
        unfold iV
        rw [List.map_set]
        rfl
      rw [e, ← hv] at hL
      have hf : Fr R.vh.ownBlock.toList w (w.setCell ⟨gb, off + k, none⟩ (.int .i64 (-1))) := (Fr.refl _ _).setCell (by rw [hv]; simp [Value.ownBlock]) _
      obtain ⟨d1, d2⟩ := hR.turn0 (hs' := R.hs.set k (false, 0)) hf hL (by simp) (fun p hp => by
        rcases List.mem_or_eq_of_mem_set hp with e | e
        · exact hR.nn p e
        · rw [e]; exact Int.le_refl _)
      exact ⟨rfl, _, ⟨_, d1, rfl, rfl⟩, hf.mono (fun x hx => .inl (by unfold Dr.foot; rw [List.mem_cons, List.mem_append]; exact .inr (.inr (footM_at R.M0 (by simpa using hx))))), d2⟩
    obtain ⟨m, hm⟩ : ∃ m, R.hs.length = m := ⟨_, rfl⟩
    rw [hm] at c2 hkl
    have i0 : (0 : Int) ≤ (k : Int) := by omega
    have i1 : (k : Int) < (m : Int) := by omega
    clear hR ho e1 e2 hx hH hv hc hm
    go_enter Try.func49, Try.ntmps49
    go_wp2_with fail
    refine (Calls.mono HH.out ?_)
    rintro e w' ⟨rfl, rfl⟩
    go_wp2_with fail
    go_ret
    exact HE.out
end Go.Proofs.Ytdjemkgnhohcdaa
namespace Go.Proofs.Ytdjemkgnhohcdaa
open Go.RowKit
set_option linter.unusedVariables false

theorem address_any (x : Int) (w : World) : Calls Try.prog 59 #[.int .i64 x] w fun e w' => e = .returned (.int .i64 (max x 0)) ∧ w = w' := by
  rcases (show 0 ≤ x ∨ x < 0 by omega) with hx | hx
  · have e : max x 0 = x := by omega
    rw [e]
    clear e
    go_enter Try.func59, Try.ntmps59
    go_wp2_with fail
    go_ret
    exact ⟨rfl, rfl⟩
  · have e : max x 0 = 0 := by omega
    rw [e]
    clear e
    go_enter Try.func59, Try.ntmps59
    go_wp2_with fail
    go_ret
    exact ⟨rfl, rfl⟩
theorem DO.drew {b0 : Nat} {w w' : World} {g : Nat} {a : RA} {F : List Nat} {r : Value} {e : Ending} (h : DO b0 g a F r w e w') : DO b0 g a F r w e w'.drew := by
  obtain ⟨h1, F', h2, h3, h4⟩ := h
  exact ⟨h1, F', h2.nil (Fr.refl _ _).drew, h3.drew, h4⟩

set_option maxRecDepth 100000 in
set_option maxHeartbeats 1600000 in
theorem denq_any {b0 : Nat} {w : World} {g : Nat} {a : RA} {F : List Nat} (h : DS b0 w g a F) (hb0 : b0 ≤ w.heap.size) (hl : a.q.length ≤ 5000000000000) (x : Int) :
    Calls Try.prog 51 #[.pointer (some ⟨g, 0, none⟩), .int .i64 x] w (DO b0 g (enqA a x) F (.tuple #[]) w) := by
  obtain ⟨R, hR, rfl, rfl⟩ := h
  have hl : R.q.length ≤ 5000000000000 := hl
  have c3 : w.cell? ⟨g, 3, none⟩ = some R.vq := hR.B.cell 3
  have hQ := hR.Q
  obtain ⟨A, cp, hv, _, _⟩ := hQ.look
  obtain ⟨n, hn⟩ : ∃ n, R.q.length = n := ⟨_, rfl⟩
  rw [hv, hn] at hQ c3
  rw [hn] at hl
  obtain ⟨y, hy⟩ : ∃ y, max x 0 = y := ⟨_, rfl⟩
  have HA : Hid (∀ Z : World, Calls Try.prog 59 #[.int .i64 x] Z fun e w' => e = .returned (.int .i64 y) ∧ Z = w') := fun Z => by have := address_any x Z; rw [hy] at this; exact this
  have HP : Hid (∀ (v' : Value) (w1 : World), Lst w1 b0 3 1 v' (n + 1) (iV R.q ++ [.int .i64 y]) → Fr ((Value.slice A n cp).ownBlock.toList) w w1 → (∀ k, v'.ownBlock = some k → (Value.slice A n cp).ownBlock = some k ∨ w.heap.size ≤ k) →
      w1.cell? ⟨g, 3, none⟩ = some (.slice A n cp) ∧ w1.frozen? ⟨g, 3, none⟩ = false ∧ DO b0 g (enqA R.abs x) (R.foot g) (.tuple #[]) w (.returned (.tuple #[])) (w1.setCell ⟨g, 3, none⟩ v')) := fun v' w1 hl' hf hat => by
    have hgo : g ∉ (Value.slice A n cp).ownBlock.toList := fun hx => hR.Q.ne_bk hR.B (by decide) g (by rw [hv, hn]; simpa using hx) rfl
    have hB1 := hR.B.fr hf hgo
    have s1 : Fr [g] w1 (w1.setCell ⟨g, 3, none⟩ v') := (Fr.refl _ _).setCell (by simp) _
    have hvv : R.vq.ownBlock = (Value.slice A n cp).ownBlock := by rw [hv, hn]
    obtain ⟨d1, d2⟩ := hR.turn1 (q' := R.q ++ [max x 0]) (v' := v') (w1 := w1) (by rw [hvv]; exact hf) (by
      rw [hy]
      unfold iV at hl' ⊢
      rw [List.length_append, List.map_append, hn]
      exact hl') (by rw [hvv]; exact hat)
    refine ⟨?_, hB1.free 3, rfl, _, ⟨_, d1, rfl, rfl⟩, ?_, d2⟩
    · have c := hB1.cell 3
      rw [hv, hn] at c
      exact c
    · refine (hf.mono (fun z hz => .inl ?_)).trans (s1.mono (fun z hz => .inl ?_)) (fun z hz => .inl hz)
      · unfold Dr.foot
        rw [List.mem_cons, List.mem_append]
        exact .inr (.inr (footM_at R.M1 (by rw [hvv]; simpa using hz)))
      · unfold Dr.foot
        rw [List.mem_cons]
        exact .inl (by simpa using hz)
  have HAT : Hid (∀ (v' : Value) (z : Nat), w.heap.size ≤ z → (v'.ownBlock = (Value.slice A n cp).ownBlock ∨ v'.ownBlock = some z) → ∀ k, v'.ownBlock = some k → (Value.slice A n cp).ownBlock = some k ∨ w.heap.size ≤ k) := fun v' z hz hat k hk => by
    rcases hat with e | e
    · exact .inl (by rw [← e]; exact hk)
    · rw [e] at hk
      injection hk with hk
      exact .inr (by omega)
  have HL : Hid (∀ {Z : World}, Fr [] w Z → Lst Z b0 3 1 (.slice A n cp) n (iV R.q)) := fun {Z} hf => hQ.fr hf (by simp)
  obtain ⟨i2, hi2, hz2, hs2, hb2⟩ := info_parts int_info
  have lg := hR.B.lt
  clear hR hQ hv hn hy
  go_enter Try.func51, Try.ntmps51
  go_upto_region 0 with fail
  go_region_law
    (first
      | (refine step_append_lst _ (by rfl) _ _ _ (by rfl) b0 3 i2 _ 1 8 Try.underlying31 hi2 hz2 hs2 hb2 rfl (.slice A n cp) n (iV R.q) (by rfl) (HL.out (by repeat (first | exact Fr.refl _ _ | refine Fr.drew ?_ | refine Fr.alloc ?_ _))) ⟨w.heap.size, 0, none⟩ 1 1 [.int .i64 y] (by rfl) (by rfl) (World.news_of_block (cs := #[.int .i64 y]) (t := 3) (fr := (0, 0)) (Bk.new_at _ _ _ _ (by simp))) (by simp [Value.oneCell']) (by unfold maxLen; omega) (by omega) (by first | omega | (simp; omega)) ?_; intro v2 w1 hown1 hgrow hat; have hq := HP.out v2 w1 hown1 (by refine Fr.grown ?_ hgrow (fun k hk => .inl (by simp [hk])); repeat (first | exact Fr.refl _ _ | refine Fr.drew ?_ | refine Fr.alloc ?_ _)) (HAT.out _ _ (by simp) hat); obtain ⟨hc1, hf1, hend⟩ := hq; have HEND := Lib.hid hend; clear hend; obtain ⟨A2, cap2, rfl, _, _⟩ := hown1.look)
      | (go_simp; go_at_call 59; refine (HA.out _).mono ?_; rintro e w' ⟨rfl, rfl⟩))
  all_goals
    clear hown1 hgrow hat
    go_wp2_with fail
    go_returns
    first
      | exact HEND.out
      | exact HEND.out.drew
end Go.Proofs.Ytdjemkgnhohcdaa
namespace Go.Proofs.Ytdjemkgnhohcdaa
open Go.RowKit
set_option linter.unusedVariables false

set_option maxRecDepth 100000 in
set_option maxHeartbeats 1600000 in
theorem ddeq_any {b0 : Nat} {w : World} {g : Nat} {a : RA} {F : List Nat} (h : DS b0 w g a F) (hb0 : b0 ≤ w.heap.size) (hl : a.q.length ≤ 5000000000000) :
    Calls Try.prog 52 #[.pointer (some ⟨g, 0, none⟩)] w (DO b0 g (deqA a).1 F (.tuple #[.int .i64 (deqA a).2.1, .bool (deqA a).2.2]) w) := by
  have HD := Lib.hid h
  obtain ⟨R, hR, rfl, rfl⟩ := h
  have hl : R.q.length ≤ 5000000000000 := hl
  have c3 : w.cell? ⟨g, 3, none⟩ = some R.vq := hR.B.cell 3
  have hQ := hR.Q
  cases hq : R.q with
  | nil =>
    have e : deqA R.abs = (R.abs, 0, false) := by unfold deqA Dr.abs; simp only [hq]
    rw [e]
    rw [hq] at hQ
    obtain ⟨A, cp, hv, h1, h2⟩ := hQ.look
    rw [hv] at c3
    simp only [List.length_nil] at c3
    clear hR hQ hq hv e
    go_enter Try.func52, Try.ntmps52
    go_wp2_with fail
    go_ret2
    exact DO.same HD.out (Fr.refl _ _)
  | cons x q =>
    have e : deqA R.abs = ({ R.abs with q := q }, x, true) := by unfold deqA Dr.abs; simp only [hq]
    rw [e]
    rw [hq] at hQ hl
    obtain ⟨qb, off, cap, hv, hqb, hql, hnc, hcm, _, hfz, hcell⟩ := hQ.form (by simp)
    have cx := hcell 0 _ rfl
    rw [Nat.add_zero] at cx
    rw [hv] at hQ c3
    obtain ⟨n, hn⟩ : ∃ n, q.length = n := ⟨_, rfl⟩
    rw [List.length_cons, hn] at hQ c3 hl hnc
    have hC := hQ.cut (k := 1) (by omega)
    simp only [Nat.mul_one, Nat.add_sub_cancel] at hC
    have hdrop : (iV (x :: q)).drop 1 = iV q := rfl
    rw [hdrop] at hC
    have HP : Hid (∀ (v' : Value) (w1 : World), Lst w1 b0 3 1 v' n (iV q) → Fr [] w w1 → (∀ k, v'.ownBlock = some k → w.heap.size ≤ k) →
        w1.cell? ⟨g, 3, none⟩ = some (.slice (some ⟨qb, off, none⟩) (n + 1) cap) ∧ w1.frozen? ⟨g, 3, none⟩ = false ∧ DO b0 g { R.abs with q := q } (R.foot g) (.tuple #[.int .i64 x, .bool true]) w (.returned (.tuple #[.int .i64 x, .bool true])) (w1.setCell ⟨g, 3, none⟩ v')) := fun v' w1 hl' hf hat => by
      have hB1 := hR.B.fr hf (by simp)
      have s1 : Fr [g] w1 (w1.setCell ⟨g, 3, none⟩ v') := (Fr.refl _ _).setCell (by simp) _
      obtain ⟨d1, d2⟩ := hR.turn1 (q' := q) (v' := v') (w1 := w1) (hf.mono (by simp)) (by rw [hn]; exact hl') (fun k hk => .inr (hat k hk))
      refine ⟨?_, hB1.free 3, rfl, _, ⟨_, d1, rfl, rfl⟩, ?_, d2⟩
      · have c := hB1.cell 3
        rw [hv, List.length_cons, hn] at c
        exact c
      · refine (hf.mono (T := R.foot g) (by simp)).trans s1 (fun z hz => .inl ?_)
        unfold Dr.foot
        rw [List.mem_cons]
        exact .inl (by simpa using hz)
    have HC := Lib.hid hC
    have HNW := Lib.hid (lst_news hC)
    have HLQ : Hid (q.length = n) := hn
    obtain ⟨i2, hi2, hz2, hs2, hb2⟩ := info_parts int_info
    have i0 : (0 : Int) < (n : Int) + 1 := by omega
    have hnl : n + 1 ≤ 9223372036854775807 := by omega
    have hcl : cap ≤ 9223372036854775807 := by unfold maxLen at hcm; omega
    have HB0 := Lib.hid hb0
    have d1 : decide ((0 : Int) < (n : Int) + 1) = true := decide_eq_true (by omega)
    have d2 : ((n : Int) + 1 == 0) = false := by simpa using (show (n : Int) + 1 ≠ 0 by omega)
    have d3 : (((n + 1 : Nat) : Int) == 0) = false := by simpa using (show ((n + 1 : Nat) : Int) ≠ 0 by omega)
    clear hR hQ hq hv e hC hcell hfz hn hdrop
    by_cases hc1 : cap = 1
    · obtain rfl : n = 0 := by omega
      subst hc1
      simp only [if_true, Nat.sub_self] at HC HNW
      go_enter Try.func52, Try.ntmps52
      go_wp2_with (at_builtin; refine wpList_append_lst _ rfl (.const (.slice none 0 0)) (.tmp 22) _ rfl b0 3 i2 _ 1 8 Try.underlying31 hi2 hz2 hs2 hb2 rfl (.slice none 0 0) 0 [] rfl (Lst.nil _ _ _ _) ⟨qb, off, none⟩ 0 0 (iV q) rfl (by rw [iV_length, HLQ.out]) HNW.out ?c2 ?c3 ?c4 ?c5 ?c6)
      case c2 => intro u hu; obtain ⟨x, _, rfl⟩ := List.mem_map.1 hu; rfl
      try (case c3 => unfold maxLen; omega)
      try (case c4 => omega)
      try (case c5 => have := HB0.out; first | omega | (simp; omega))
      case c6 =>
        intro v2 w1 hown hgrow hat
        obtain ⟨k1, k2, k3⟩ := HP.out v2 w1 (by simpa using hown) ((Fr.refl [] w).grown hgrow (fun k hk => by simp [Value.ownBlock] at hk)) (fun k hk => by
          rcases hat with e | e
          · rw [e] at hk; simp [Value.ownBlock] at hk
          · rw [e] at hk; injection hk with hk; omega)
        have HK := Lib.hid k3
        obtain ⟨A2, cap2, rfl, _, _⟩ := hown.look
        clear hown hgrow hat k3
        go_wp2_with fail
        go_ret2
        exact HK.out
    · rw [if_neg hc1] at HC HNW
      go_enter Try.func52, Try.ntmps52
      go_wp2_with (at_builtin; (refine wpList_append_lst _ rfl (.const (.slice none 0 0)) (.tmp 22) _ rfl b0 3 i2 _ 1 8 Try.underlying31 hi2 hz2 hs2 hb2 rfl (.slice none 0 0) 0 [] rfl (Lst.nil _ _ _ _) ⟨qb, off + 1, none⟩ n (cap - 1) (iV q) rfl (by rw [iV_length, HLQ.out, Nat.mul_one]) HNW.out ?d2 ?d3 ?d4 ?d5 ?d6))
      case d2 => intro u hu; obtain ⟨x, _, rfl⟩ := List.mem_map.1 hu; rfl
      try (case d3 => unfold maxLen; omega)
      try (case d4 => omega)
      try (case d5 => have := HB0.out; first | omega | (simp; omega))
      case d6 =>
        intro v2 w1 hown hgrow hat
        obtain ⟨k1, k2, k3⟩ := HP.out v2 w1 (by simpa using hown) ((Fr.refl [] w).grown hgrow (fun k hk => by simp [Value.ownBlock] at hk)) (fun k hk => by
          rcases hat with e | e
          · rw [e] at hk; simp [Value.ownBlock] at hk
          · rw [e] at hk; injection hk with hk; omega)
        have HK := Lib.hid k3
        obtain ⟨A2, cap2, rfl, _, _⟩ := hown.look
        clear hown hgrow hat k3
        go_wp2_with fail
        go_ret2
        exact HK.out
end Go.Proofs.Ytdjemkgnhohcdaa
namespace Go.Proofs.Ytdjemkgnhohcdaa
open Go.RowKit
set_option linter.unusedVariables false

theorem DT.hput {b0 : Nat} {w : World} {g : Nat} {R : Dr} (hR : DT b0 w g R) {k gb off cap : Nat} (hv : R.vh = .slice (some ⟨gb, off, none⟩) R.hs.length cap) (p : Bool × Int) (hp : 0 ≤ p.2) (r : Value) :
    DO b0 g { R.abs with hs := R.hs.set k p } (R.foot g) r w (.returned r) (w.setCell ⟨gb, off + k, none⟩ (.int .i64 (if p.1 then p.2 else -1))) := by
  have hH := hR.H
  rw [hv] at hH
  have hL := hH.put (j := k) (.int .i64 (if p.1 then p.2 else -1))
  have e : (iV (hsL R.hs)).set k (.int .i64 (if p.1 then p.2 else -1)) = iV (hsL (R.hs.set k p)) := by
    rw [hsL_set]
    unfold iV
    rw [List.map_set]
  rw [e, ← hv] at hL
  have hf : Fr R.vh.ownBlock.toList w (w.setCell ⟨gb, off + k, none⟩ (.int .i64 (if p.1 then p.2 else -1))) := (Fr.refl _ _).setCell (by rw [hv]; simp [Value.ownBlock]) _
  obtain ⟨d1, d2⟩ := hR.turn0 (hs' := R.hs.set k p) hf hL (by simp) (fun q hq => by
    rcases List.mem_or_eq_of_mem_set hq with e | e
    · exact hR.nn q e
    · rw [e]; exact hp)
  exact ⟨rfl, _, ⟨_, d1, rfl, rfl⟩, hf.mono (fun x hx => .inl (by unfold Dr.foot; rw [List.mem_cons, List.mem_append]; exact .inr (.inr (footM_at R.M0 (by simpa using hx))))), d2⟩

set_option maxRecDepth 100000 in
set_option maxHeartbeats 1600000 in
theorem dopen_any {b0 : Nat} {w : World} {g : Nat} {a : RA} {F : List Nat} (h : DS b0 w g a F) (x : Int) :
    Calls Try.prog 47 #[.pointer (some ⟨g, 0, none⟩), .int .i64 x] w (DO b0 g (openA a x).1 F (.tuple #[.int .i64 (openA a x).2.1, .int .i64 (openA a x).2.2]) w) := by
  have HD := Lib.hid h
  obtain ⟨R, hR, rfl, rfl⟩ := h
  have c2 : w.cell? ⟨g, 2, none⟩ = some R.vh := hR.B.cell 2
  have hl := hR.ok.2.2
  obtain ⟨A, c, hv, _, _⟩ := hR.H.look
  rw [hv] at c2
  obtain ⟨y, hy⟩ : ∃ y, max x 0 = y := ⟨_, rfl⟩
  have hy0 : 0 ≤ y := by omega
  have HA : Hid (∀ Z : World, Calls Try.prog 59 #[.int .i64 x] Z fun e w' => e = .returned (.int .i64 y) ∧ Z = w') := fun Z => by have := address_any x Z; rw [hy] at this; exact this
  have HY := Lib.hid hy
  have HR := Lib.hid hR
  have HV := Lib.hid hv
  obtain ⟨m, hm⟩ : ∃ m, R.hs.length = m := ⟨_, rfl⟩
  have HM := Lib.hid hm
  rw [hm] at c2 hl
  clear hR hv hy hm
  go_enter Try.func47, Try.ntmps47
  go_wp2_with fail
  go_loop [6] (fun i => ∃ k : Nat, k ≤ m ∧ i = .int .i64 k ∧ Hid (∀ (j : Nat) (p : Bool × Int), j < k → R.hs[j]? = some p → p.1 = true)) (fun i => m - (intOf i).toNat)
  case atStart => exact ⟨0, by omega, rfl, fun j p hj => by omega⟩
  case round =>
    obtain ⟨k, hk, rfl, HB⟩ := hrel
    by_cases hlt : k < m
    · obtain ⟨p, hp⟩ : ∃ p, R.hs[k]? = some p := ⟨_, List.getElem?_eq_getElem (by have := HM.out; omega)⟩
      obtain ⟨gb, off, cap, hv2, _, hgl, _, _, hfz0, hfz, hc⟩ := HR.out.H.form (by have := HM.out; omega)
      have hv3 := hv2
      rw [HV.out] at hv2
      injection hv2 with hv2
      subst hv2
      have HV3 := Lib.hid hv3
      have ck := hc k _ (iV_at (hsL_at hp))
      have hp0 := HR.out.nn p (List.mem_of_getElem? hp)
      have i0 : (0 : Int) ≤ (k : Int) := by omega
      have i1 : (k : Int) < (m : Int) := by omega
      have HPP := Lib.hid hp
      obtain ⟨o, z⟩ := p
      cases o with
      | true =>
        have ck : w.cell? ⟨gb, off + k, none⟩ = some (.int .i64 z) := ck
        have d3 : decide (z < 0) = false := decide_eq_false (by have : 0 ≤ z := hp0; omega)
        clear hp hp0 hc hfz hfz0 hv3
        go_wp2_with fail
        go_round
        case rel => exact ⟨k + 1, by omega, by go_num, fun j p hj hjp => by
          by_cases e : j < k
          · exact HB.out j p e hjp
          · obtain rfl : j = k := by omega
            rw [HPP.out] at hjp
            injection hjp with hjp
            rw [← hjp]⟩
        case measure => simp [intOf]; omega
      | false =>
        have ck : w.cell? ⟨gb, off + k, none⟩ = some (.int .i64 (-1)) := ck
        have hfk := hfz (off + k)
        have ho : openA R.abs x = ({ R.abs with hs := R.hs.set k (true, y) }, (k : Int), 0) := by
          have hf : R.hs.findIdx? (fun p => !p.1) = some k := by
            rw [List.findIdx?_eq_some_iff_getElem]
            obtain ⟨q1, q2⟩ := List.getElem?_eq_some_iff.1 hp
            refine ⟨q1, by rw [q2]; rfl, fun j hj => ?_⟩
            have := HB.out j R.hs[j] hj (List.getElem?_eq_getElem (by omega))
            rw [this]
            simp
          unfold openA
          have hf : R.abs.hs.findIdx? (fun p => !p.1) = some k := hf
          rw [hf, HY.out]
          rfl
        rw [ho]
        have HE : Hid (DO b0 g { R.abs with hs := R.hs.set k (true, y) } (R.foot g) (.tuple #[.int .i64 (k : Int), .int .i64 0]) w (.returned (.tuple #[.int .i64 (k : Int), .int .i64 0])) (w.setCell ⟨gb, off + k, none⟩ (.int .i64 y))) :=
          HR.out.hput hv3 (true, y) hy0 _
        clear hp hp0 hc hfz hfz0 hv3 ho
        go_upto_region 5 with fail
        go_region_with (go_at_call 59; refine (HA.out _).mono ?_; rintro e w' ⟨rfl, rfl⟩)
        all_goals
          go_wp2_with fail
          go_ret2
          first
            | exact HE.out
            | exact HE.out.drew

    · obtain rfl : m = k := by omega
      have ho : openA R.abs x = (R.abs, 0, 56) := by
        have hf : R.abs.hs.findIdx? (fun p => !p.1) = none := by
          rw [List.findIdx?_eq_none_iff]
          intro p hp
          obtain ⟨j, hj⟩ := List.mem_iff_getElem?.1 hp
          have hj : R.hs[j]? = some p := hj
          have := HB.out j p (by have := (List.getElem?_eq_some_iff.1 hj).1; have := HM.out; omega) hj
          rw [this]
          rfl
        unfold openA
        rw [hf]
      have HO := Lib.hid ho
      clear ho
      go_wp2_with fail
      go_ret2
      rw [HO.out]
      exact DO.same HD.out (Fr.refl _ _)
end Go.Proofs.Ytdjemkgnhohcdaa
namespace Go.Proofs.Ytdjemkgnhohcdaa
open Go.RowKit
set_option linter.unusedVariables false

theorem flat2_at {α β : Type} (f : α → β) (f' : α → β) : ∀ (l : List α) (i : Nat) (t : α), l[i]? = some t → (l.flatMap (fun t => [f t, f' t]))[i * 2]? = some (f t) ∧ (l.flatMap (fun t => [f t, f' t]))[i * 2 + 1]? = some (f' t)
  | [], i, t, h => by simp at h
  | a :: l, 0, t, h => by
    have h : a = t := by simpa using h
    subst h
    simp
  | a :: l, i + 1, t, h => by
    obtain ⟨h1, h2⟩ := flat2_at f f' l i t (by simpa using h)
    have e : (a :: l).flatMap (fun t => [f t, f' t]) = f a :: f' a :: l.flatMap (fun t => [f t, f' t]) := by simp
    have e1 : (i + 1) * 2 = i * 2 + 1 + 1 := by omega
    rw [e, e1]
    exact ⟨by simpa using h1, by simpa using h2⟩
theorem Dr.M_eq (R : Dr) : R.M = (R.vh, hsL R.hs) :: (R.vq, R.q) :: R.ts.flatMap (fun t => [(t.v1, t.ls.flatten), (t.v2, begL t.ls)]) := rfl
theorem Dr.Mt {R : Dr} {i : Nat} {t : Dt} (h : R.ts[i]? = some t) : R.M[i * 2 + 2]? = some (t.v1, t.ls.flatten) ∧ R.M[i * 2 + 3]? = some (t.v2, begL t.ls) := by
  obtain ⟨h1, h2⟩ := flat2_at (fun t : Dt => (t.v1, t.ls.flatten)) (fun t : Dt => (t.v2, begL t.ls)) R.ts i t h
  rw [R.M_eq]
  exact ⟨by simpa using h1, by simpa using h2⟩
section
variable {b0 : Nat} {w w' : World} {g : Nat} {R : Dr}
/-- A thread, in memory. -/
theorem DT.t_at (h : DT b0 w g R) {i : Nat} {t : Dt} (ht : R.ts[i]? = some t) : ∃ gt off cap, R.vt = .slice (some ⟨gt, off, none⟩) R.ts.length cap ∧ gt < w.heap.size ∧ w.cell? ⟨gt, off + i * 2, none⟩ = some t.v1 ∧ w.cell? ⟨gt, off + (i * 2 + 1), none⟩ = some t.v2 ∧ (∀ j, w.frozen? ⟨gt, j, none⟩ = false) := by
  have hi := (List.getElem?_eq_some_iff.1 ht).1
  obtain ⟨gt, off, cap, hv, _, hl, _, _, _, hf, hc⟩ := h.Th.form (by omega)
  obtain ⟨h1, h2⟩ := flat2_at Dt.v1 Dt.v2 R.ts i t ht
  exact ⟨gt, off, cap, hv, hl, hc _ _ h1, hc _ _ h2, hf⟩
theorem DT.slots (h : DT b0 w g R) {i : Nat} {t : Dt} (ht : R.ts[i]? = some t) : Lst w b0 3 1 t.v1 t.ls.flatten.length (iV t.ls.flatten) := h.P.at_ _ _ (Dr.Mt ht).1
theorem DT.begs (h : DT b0 w g R) {i : Nat} {t : Dt} (ht : R.ts[i]? = some t) : Lst w b0 3 1 t.v2 t.ls.length (iV (begL t.ls)) := by
  have := h.P.at_ _ _ (Dr.Mt ht).2
  simpa [begL] using this
end
theorem flatten_len (ls : List (List Int)) : ls.flatten.length = sumL ls := by
  unfold sumL
  rw [List.length_flatten]
theorem begL_at {ls : List (List Int)} {k : Nat} (h : k < ls.length) : (begL ls)[k]? = some ((sumL (ls.take k) : Nat) : Int) := by
  unfold begL
  rw [List.getElem?_map, List.getElem?_range h]
  rfl
theorem begL_snoc (ls : List (List Int)) (l : List Int) : begL (ls ++ [l]) = begL ls ++ [((sumL ls : Nat) : Int)] := by
  unfold begL
  rw [List.length_append, List.length_cons, List.length_nil, List.range_succ, List.map_append]
  congr 1
  · apply List.map_congr_left
    intro k hk
    have hk : k < ls.length := by simpa using hk
    rw [List.take_append_of_le_length (by omega)]
  · simp [List.take_append_of_le_length]
theorem sumL_snoc (ls : List (List Int)) (l : List Int) : sumL (ls ++ [l]) = sumL ls + l.length := by
  unfold sumL
  rw [List.map_append, List.sum_append]
  simp
end Go.Proofs.Ytdjemkgnhohcdaa
namespace Go.Proofs.Ytdjemkgnhohcdaa
open Go.RowKit
set_option linter.unusedVariables false

def placeA (a : RA) (i s : Int) : Int × Int := if topE a i s = 0 then (((sumL (thA a i).dropLast : Nat) : Int) + s, 0) else (0, topE a i s)

theorem inT_dr {R : Dr} {i : Int} (h : inT R.abs i = true) : ∃ (k : Nat) (t : Dt), i = (k : Int) ∧ R.ts[k]? = some t ∧ thA R.abs (k : Int) = t.ls := by
  unfold inT Dr.abs at h
  simp only [Bool.and_eq_true, decide_eq_true_eq, List.length_map] at h
  obtain ⟨k, rfl⟩ := Int.eq_ofNat_of_zero_le h.1
  have hk : k < R.ts.length := by omega
  refine ⟨k, R.ts[k], rfl, List.getElem?_eq_getElem hk, ?_⟩
  unfold thA Dr.abs
  simp [List.getD, hk]

set_option maxRecDepth 100000 in
set_option maxHeartbeats 1600000 in
theorem dplace_err {b0 : Nat} {w : World} {g : Nat} {R : Dr} (hR : DT b0 w g R) (i s : Int) (hbad : inT R.abs i = false ∨ thA R.abs i = []) :
    Calls Try.prog 58 #[.pointer (some ⟨g, 0, none⟩), .int .i64 i, .int .i64 s] w fun e w' => e = .returned (.tuple #[.int .i64 (placeA R.abs i s).1, .int .i64 (placeA R.abs i s).2]) ∧ Fr [] w w' := by
  have HI := Lib.hid (is_any hR i w rfl)
  cases hi : inT R.abs i with
  | false =>
    have e : placeA R.abs i s = (0, 51) := by
      have : topE R.abs i s = 51 := by unfold topE; rw [if_pos hi]
      unfold placeA
      rw [this, if_neg (by omega)]
    rw [hi] at HI
    rw [e]
    clear hR hbad hi e
    go_enter Try.func58, Try.ntmps58
    go_wp2_with fail
    refine (Calls.mono HI.out ?_)
    rintro e w' ⟨rfl, rfl⟩
    go_wp2_with fail
    go_ret2
    exact ⟨rfl, Fr.refl _ _⟩
  | true =>
    have hnil : thA R.abs i = [] := by
      rcases hbad with h | h
      · rw [hi] at h; cases h
      · exact h
    have e : placeA R.abs i s = (0, 54) := by
      have : topE R.abs i s = 54 := by unfold topE; rw [if_neg (by rw [hi]; simp), if_pos hnil]
      unfold placeA
      rw [this, if_neg (by omega)]
    rw [hi] at HI
    rw [e]
    obtain ⟨k, t, rfl, ht, hth⟩ := inT_dr hi
    rw [hth] at hnil
    obtain ⟨gt, off, cap, hv, hgl, ct1, ct2, _⟩ := hR.t_at ht
    have c0 : w.cell? ⟨g, 0, none⟩ = some R.vt := hR.B.cell 0
    rw [hv] at c0
    have hkl := (List.getElem?_eq_some_iff.1 ht).1
    obtain ⟨n, hn⟩ : ∃ n, R.ts.length = n := ⟨_, rfl⟩
    have hbg := hR.begs ht
    rw [hnil] at hbg
    obtain ⟨A2, c2, hv2, _, _⟩ := hbg.look
    obtain ⟨A1, c1, hv1, _, _⟩ := (hR.slots ht).look
    rw [hv2] at ct2
    rw [hv1] at ct1
    rw [hn] at c0 hkl
    have i0 : (0 : Int) ≤ (k : Int) := by omega
    have i1 : (k : Int) < (n : Int) := by omega
    simp only [List.length_nil] at ct2
    rw [← Nat.add_assoc] at ct2
    obtain ⟨m, hm⟩ : ∃ m, t.ls.flatten.length = m := ⟨_, rfl⟩
    rw [hm] at ct1
    clear hR hbad hi e hnil hv ht hth hn hbg hv2 hv1 hm
    go_enter Try.func58, Try.ntmps58
    go_wp2_with fail
    refine (Calls.mono HI.out ?_)
    rintro e w' ⟨rfl, rfl⟩
    go_wp2_with fail
    go_ret2
    refine ⟨rfl, ?_⟩
    repeat (first | exact Fr.refl _ _ | refine Fr.drew ?_ | refine Fr.alloc ?_ _)
end Go.Proofs.Ytdjemkgnhohcdaa
namespace Go.Proofs.Ytdjemkgnhohcdaa
open Go.RowKit
set_option linter.unusedVariables false

set_option maxRecDepth 100000 in
set_option maxHeartbeats 1600000 in
theorem dplace_some {b0 : Nat} {w : World} {g : Nat} {R : Dr} (hR : DT b0 w g R) (k : Nat) (s : Int) {t : Dt} (ht : R.ts[k]? = some t) {C : List (List Int)} {T : List Int} (hls : t.ls = C ++ [T]) (hin : inT R.abs (k : Int) = true) (hs : -9223372036854775808 ≤ s ∧ s ≤ 9223372036854775807) :
    Calls Try.prog 58 #[.pointer (some ⟨g, 0, none⟩), .int .i64 (k : Int), .int .i64 s] w fun e w' => e = .returned (if 0 ≤ s ∧ s < (T.length : Int) then .tuple #[.int .i64 (((sumL C : Nat) : Int) + s), .int .i64 0] else .tuple #[.int .i64 0, .int .i64 52]) ∧ Fr [] w w' := by
  have HI := Lib.hid (is_any hR (k : Int) w rfl)
  rw [hin] at HI
  obtain ⟨gt, off, cap, hv, hgl, ct1, ct2, _⟩ := hR.t_at ht
  have c0 : w.cell? ⟨g, 0, none⟩ = some R.vt := hR.B.cell 0
  rw [hv] at c0
  have hkl := (List.getElem?_eq_some_iff.1 ht).1
  obtain ⟨n, hn⟩ : ∃ n, R.ts.length = n := ⟨_, rfl⟩
  have hbg := hR.begs ht
  obtain ⟨q, hq⟩ : ∃ q, C.length = q := ⟨_, rfl⟩
  have hl1 : t.ls.length = q + 1 := by rw [hls, List.length_append, hq]; rfl
  obtain ⟨sb, so, c2, hv2, _, hsb, _, _, _, _, hc2⟩ := hbg.form (by omega)
  obtain ⟨p, hp⟩ : ∃ p, sumL C = p := ⟨_, rfl⟩
  obtain ⟨z, hz⟩ : ∃ z, T.length = z := ⟨_, rfl⟩
  have cb : w.cell? ⟨sb, so + q, none⟩ = some (.int .i64 (p : Int)) := by
    refine hc2 q _ (iV_at ?_)
    rw [begL_at (by omega), hls, List.take_left' hq, hp]
  have hm : t.ls.flatten.length = p + z := by rw [flatten_len, hls, sumL_snoc, hp, hz]
  have hpz : p + z ≤ 4096 := by
    have h1 := hR.room t (List.mem_of_getElem? ht)
    have h2 := hR.ok.2.1
    rw [← flatten_len, hm] at h1
    omega
  obtain ⟨A1, c1, hv1, _, _⟩ := (hR.slots ht).look
  rw [hv2, hl1, ← Nat.add_assoc] at ct2
  rw [hv1, hm] at ct1
  rw [hn] at c0 hkl
  have hq8 : q ≤ 4096 := by
    have h1 := hR.one t (List.mem_of_getElem? ht)
    have h3 : ∀ l : List (List Int), (∀ x ∈ l, 1 ≤ x.length) → l.length ≤ sumL l := fun l => by
      induction l with
      | nil => intro _; simp
      | cons x l ih =>
        intro h
        have := ih (fun y hy => h y (by simp [hy]))
        have := h x (by simp)
        simp only [sumL, List.map_cons, List.sum_cons, List.length_cons] at *
        omega
    have := h3 C (fun x hx => h1 x (by rw [hls]; simp [hx]))
    omega
  have i0 : (0 : Int) ≤ (k : Int) := by omega
  have i1 : (k : Int) < (n : Int) := by omega
  have j0 : (0 : Int) ≤ (q : Int) := by omega
  have j1 : (q : Int) < ((q + 1 : Nat) : Int) := by omega
  have j2 : (q : Int) < (q : Int) + 1 := by omega
  have j3 : IntKind.i64.wrap (((q + 1 : Nat) : Int) - 1) = (q : Int) := by rw [show ((q + 1 : Nat) : Int) - 1 = (q : Int) by omega]; exact IntWalk.i64_in _ (by omega)
  have j4 : IntKind.i64.wrap (q : Int) = (q : Int) := IntWalk.i64_in _ (by omega)
  have j5 : (((q + 1 : Nat) : Int) == 0) = false := by simpa using (show ((q + 1 : Nat) : Int) ≠ 0 by omega)
  have j6 : ((q : Int) + 1 == 0) = false := by simpa using (show (q : Int) + 1 ≠ 0 by omega)
  have j7 : IntKind.i64.wrap (((p + z : Nat) : Int) - (p : Int)) = (z : Int) := by rw [show ((p + z : Nat) : Int) - (p : Int) = (z : Int) by omega]; exact IntWalk.i64_in _ (by omega)
  have j8 : IntKind.i64.wrap (z : Int) = (z : Int) := IntWalk.i64_in _ (by omega)
  have j9 : IntKind.i64.wrap ((p : Int) + (z : Int) - (p : Int)) = (z : Int) := by rw [show (p : Int) + (z : Int) - (p : Int) = (z : Int) by omega]; exact IntWalk.i64_in _ (by omega)
  rw [hp, hz]
  clear hR hin hv ht hn hbg hls hl1 hv2 hv1 hm hc2 hq hp hz
  by_cases hs0 : s < 0
  · have d0 : decide (s < 0) = true := decide_eq_true hs0
    rw [if_neg (by omega)]
    clear hs0 hs
    go_enter Try.func58, Try.ntmps58
    go_wp2_with fail
    refine (Calls.mono HI.out ?_)
    rintro e w' ⟨rfl, rfl⟩
    go_upto_region 8 with fail
    go_quiet (fail)
    go_wp2_with fail
    go_ret2
    refine ⟨rfl, ?_⟩
    repeat (first | exact Fr.refl _ _ | refine Fr.drewN ?_ _ | refine Fr.drew ?_ | refine Fr.alloc ?_ _)
  · have d0 : decide (s < 0) = false := decide_eq_false hs0
    by_cases hs1 : s < (z : Int)
    · rw [if_pos ⟨by omega, hs1⟩]
      have d1 : decide ((z : Int) ≤ s) = false := decide_eq_false (by omega)
      have k1 : IntKind.i64.wrap ((p : Int) + s) = (p : Int) + s := IntWalk.i64_in _ (by omega)
      clear hs0 hs
      go_enter Try.func58, Try.ntmps58
      go_wp2_with fail
      refine (Calls.mono HI.out ?_)
      rintro e w' ⟨rfl, rfl⟩
      go_upto_region 8 with fail
      go_quiet (fail)
      go_wp2_with fail
      go_ret2
      refine ⟨rfl, ?_⟩
      repeat (first | exact Fr.refl _ _ | refine Fr.drewN ?_ _ | refine Fr.drew ?_ | refine Fr.alloc ?_ _)
    · rw [if_neg (by omega)]
      have d1 : decide ((z : Int) ≤ s) = true := decide_eq_true (by omega)
      clear hs0 hs
      go_enter Try.func58, Try.ntmps58
      go_wp2_with fail
      refine (Calls.mono HI.out ?_)
      rintro e w' ⟨rfl, rfl⟩
      go_upto_region 8 with fail
      go_quiet (fail)
      go_wp2_with fail
      go_ret2
      refine ⟨rfl, ?_⟩
      repeat (first | exact Fr.refl _ _ | refine Fr.drewN ?_ _ | refine Fr.drew ?_ | refine Fr.alloc ?_ _)
end Go.Proofs.Ytdjemkgnhohcdaa
namespace Go.Proofs.Ytdjemkgnhohcdaa
open Go.RowKit
set_option linter.unusedVariables false

theorem dplace_any {b0 : Nat} {w : World} {g : Nat} {R : Dr} (hR : DT b0 w g R) (i s : Int) (hs : -9223372036854775808 ≤ s ∧ s ≤ 9223372036854775807) :
    Calls Try.prog 58 #[.pointer (some ⟨g, 0, none⟩), .int .i64 i, .int .i64 s] w fun e w' => e = .returned (.tuple #[.int .i64 (placeA R.abs i s).1, .int .i64 (placeA R.abs i s).2]) ∧ Fr [] w w' := by
  cases hin : inT R.abs i with
  | false => exact dplace_err hR i s (.inl hin)
  | true =>
    by_cases hnil : thA R.abs i = []
    · exact dplace_err hR i s (.inr hnil)
    · obtain ⟨k, t, rfl, ht, hth⟩ := inT_dr hin
      obtain ⟨C, T, hCT⟩ := last_split (l := t.ls) (by rw [← hth]; exact hnil)
      refine (dplace_some hR k s ht hCT hin hs).mono ?_
      rintro e w' ⟨rfl, hf⟩
      refine ⟨?_, hf⟩
      have e1 : topE R.abs (k : Int) s = if s < 0 ∨ (T.length : Int) ≤ s then 52 else 0 := by
        unfold topE
        rw [if_neg (by rw [hin]; simp), if_neg hnil, hth, hCT]
        simp
      unfold placeA
      by_cases h : 0 ≤ s ∧ s < (T.length : Int)
      · have e2 : topE R.abs (k : Int) s = 0 := by rw [e1, if_neg (by omega)]
        rw [if_pos h, if_pos e2, hth, hCT]
        simp
      · have e2 : topE R.abs (k : Int) s = 52 := by rw [e1, if_pos (by omega)]
        rw [if_neg h, e2]
        rfl
end Go.Proofs.Ytdjemkgnhohcdaa
namespace Go.Proofs.Ytdjemkgnhohcdaa
open Go.RowKit
set_option linter.unusedVariables false

set_option maxRecDepth 100000 in
set_option maxHeartbeats 1600000 in
theorem dget_any {b0 : Nat} {w : World} {g : Nat} {a : RA} {F : List Nat} (h : DS b0 w g a F) (i s : Int) (hs : -9223372036854775808 ≤ s ∧ s ≤ 9223372036854775807) :
    Calls Try.prog 45 #[.pointer (some ⟨g, 0, none⟩), .int .i64 i, .int .i64 s] w fun e w' => e = .returned (.tuple #[.int .i64 (getA a i s).1, .int .i64 (getA a i s).2]) ∧ Fr [] w w' := by
  obtain ⟨R, hR, rfl, rfl⟩ := h
  have HP := Lib.hid (dplace_any hR i s hs)
  by_cases h0 : topE R.abs i s = 0
  · have hin : inT R.abs i = true := by
      cases h : inT R.abs i with
      | true => rfl
      | false => rw [show topE R.abs i s = 51 by unfold topE; rw [if_pos h]] at h0; omega
    have hnil : thA R.abs i ≠ [] := fun e => by
      rw [show topE R.abs i s = 54 by unfold topE; rw [if_neg (by rw [hin]; simp), if_pos e]] at h0
      omega
    obtain ⟨k, t, rfl, ht, hth⟩ := inT_dr hin
    obtain ⟨C, T, hCT⟩ := last_split (l := t.ls) (by rw [← hth]; exact hnil)
    have hsz : 0 ≤ s ∧ s < (T.length : Int) := by
      unfold topE at h0
      rw [if_neg (by rw [hin]; simp), if_neg hnil, hth, hCT] at h0
      simp at h0
      omega
    obtain ⟨j, rfl⟩ := Int.eq_ofNat_of_zero_le hsz.1
    have hj : j < T.length := by omega
    have e1 : placeA R.abs (k : Int) (j : Int) = (((sumL C : Nat) : Int) + (j : Int), 0) := by
      unfold placeA
      rw [if_pos h0, hth, hCT]
      simp
    have e2 : getA R.abs (k : Int) (j : Int) = (T[j], 0) := by
      unfold getA
      rw [if_pos h0, hth, hCT]
      simp [List.getD, hj]
    rw [e1] at HP
    rw [e2]
    have hfl : t.ls.flatten[sumL C + j]? = some T[j] := by
      rw [hCT, List.flatten_append, List.getElem?_append_right (by rw [flatten_len]; omega), flatten_len]
      simp [hj]
    obtain ⟨x, hx⟩ : ∃ x, T[j] = x := ⟨_, rfl⟩
    rw [hx] at hfl ⊢
    obtain ⟨m, hm⟩ : ∃ m, sumL C + j = m := ⟨_, rfl⟩
    have hm2 : ((sumL C : Nat) : Int) + (j : Int) = (m : Int) := by omega
    rw [hm2] at HP
    rw [hm] at hfl
    have HR := Lib.hid hR
    have HT := Lib.hid ht
    have HX := Lib.hid hfl
    have hml := (List.getElem?_eq_some_iff.1 hfl).1
    have hkl := (List.getElem?_eq_some_iff.1 ht).1
    clear hR ht hfl h0 hin hnil hth hCT hsz hj e1 e2 hx hm hm2
    go_enter Try.func45, Try.ntmps45
    go_wp2_with fail
    refine (Calls.mono HP.out ?_)
    rintro e w' ⟨rfl, hf⟩
    have HF := Lib.hid hf
    have hR2 := HR.out.nil hf
    obtain ⟨gt, off, cap, hv, hgl, ct1, ct2, _⟩ := hR2.t_at HT.out
    have c0 : w'.cell? ⟨g, 0, none⟩ = some R.vt := hR2.B.cell 0
    obtain ⟨sb, so, c1, hv1, _, _, _, _, _, _, hc⟩ := (hR2.slots HT.out).form (by omega)
    have cx := hc m _ (iV_at HX.out)
    rw [hv1] at ct1
    rw [hv] at c0
    obtain ⟨L, hL⟩ : ∃ L, t.ls.flatten.length = L := ⟨_, rfl⟩
    obtain ⟨n, hn⟩ : ∃ n, R.ts.length = n := ⟨_, rfl⟩
    rw [hL] at ct1 hml
    rw [hn] at c0 hkl
    have i0 : (0 : Int) ≤ (k : Int) := by omega
    have i1 : (k : Int) < (n : Int) := by omega
    have i2 : (0 : Int) ≤ (m : Int) := by omega
    have i3 : (m : Int) < (L : Int) := by omega
    clear hR2 hf hc hv hv1 hL hn
    go_wp2_with fail
    go_ret2
    exact ⟨rfl, HF.out⟩
  · have e1 : placeA R.abs i s = (0, topE R.abs i s) := by unfold placeA; rw [if_neg h0]
    have e2 : getA R.abs i s = (0, topE R.abs i s) := by unfold getA; rw [if_neg h0]
    rw [e1] at HP
    rw [e2]
    obtain ⟨v, hv⟩ : ∃ v, topE R.abs i s = v := ⟨_, rfl⟩
    rw [hv] at h0 HP ⊢
    have d0 : (v != 0) = true := by simpa using h0
    have d1 : (v == 0) = false := by simpa using h0
    clear hR e1 e2 hv
    go_enter Try.func45, Try.ntmps45
    go_wp2_with fail
    refine (Calls.mono HP.out ?_)
    rintro e w' ⟨rfl, hf⟩
    have HF := Lib.hid hf
    clear hf
    go_wp2_with fail
    go_ret2
    exact ⟨rfl, HF.out⟩
end Go.Proofs.Ytdjemkgnhohcdaa
