/-
  Roots: twenty roots beside one another: their scene, and what each call of many() makes of it.
-/
import Derived.Test.YtdcppdgnekhcgaaGreatDoorFr1
namespace Go.Proofs.YtdcppdgnekhcgaaGreatDoor
open Go.RowKit
set_option maxRecDepth 100000
set_option linter.unusedVariables false

/-- What the roots of many() hold, new and played. -/
def mk0 : RA := ⟨4, [[[0, 0]], []], [(false, 0), (false, 0)], []⟩
def mkO (x : Int) : RA := ⟨4, [[[0, 0]], []], [(true, x), (false, 0)], []⟩
def mkS (x y : Int) : RA := ⟨4, [[[0, y]], []], [(true, x), (false, 0)], []⟩
def mkQ (x y z : Int) : RA := ⟨4, [[[0, y]], []], [(true, x), (false, 0)], [z]⟩
theorem mk_push : pushA (newA 2 4 2) 0 2 = (mk0, 0) := rfl
theorem mk_open (x : Int) (h : 0 ≤ x) : openA mk0 x = (mkO x, 0, 0) := by
  have : openA mk0 x = (mkO (max x 0), 0, 0) := rfl
  rw [this, Int.max_eq_left h]
theorem mk_set (x y : Int) (h : 0 ≤ y) : setA (mkO x) 0 1 y = (mkS x y, 0) := by
  have : setA (mkO x) 0 1 y = (mkS x (max y 0), 0) := rfl
  rw [this, Int.max_eq_left h]
theorem mk_enq (x y z : Int) (h : 0 ≤ z) : enqA (mkS x y) z = mkQ x y z := by
  have : enqA (mkS x y) z = mkQ x y (max z 0) := rfl
  rw [this, Int.max_eq_left h]
theorem mk_roots (x y z : Int) (hx : 0 < x) (hy : 0 < y) (hz : 0 < z) : rootsA (mkQ x y z) = [y, x, z] := by
  simp [rootsA, updA, mkQ, trT, trF, trL, trH, stepT, stepF, stepL, stepH, hx, hy, hz]
theorem mk_handles (x y z : Int) : handlesA (mkQ x y z) = [x, -1] := rfl
theorem mk_frames (x y z : Int) : framesA (mkQ x y z) 0 = [2] := rfl

theorem RS.low {b0 b1 : Nat} {w : World} {g : Nat} {a : RA} {F : List Nat} (h : RS b1 w g a F) (hb : b0 ≤ b1) : RS b0 w g a F := by
  obtain ⟨R, h1, h2, h3⟩ := h
  exact ⟨R, ⟨h1.B, h1.Th, fun t ht => (h1.Fs t ht).mono hb, h1.Fr, h1.Hd, h1.Q.mono hb, h1.ndI, h1.ndF, fun x hx => Nat.le_trans hb (h1.base x hx), h1.ok, h1.room, h1.one⟩, h2, h3⟩

structure Rr where
  g : Nat
  a : RA
  F : List Nat
def ptrV (g : Nat) : Value := .pointer (some ⟨g, 0, none⟩)
def ptrs (T : List Rr) : List Value := T.map fun t => ptrV t.g
def thR (b0 : Nat) (t : Rr) : Th b0 := thRS b0 t.g t.a t.F
def Mny (w0 : World) (v : Value) (vs : List Value) (T : List Rr) (w : World) : Prop :=
  Sg w0 (thLst w0.heap.size 48 v vs :: T.map (thR w0.heap.size)) w
section
variable {w0 w w' : World} {v : Value} {vs : List Value} {T : List Rr}
theorem Mny.quiet (h : Mny w0 v vs T w) (hf : Fr [] w w') : Mny w0 v vs T w' := Sg.nil h hf
theorem Mny.fr (h : Mny w0 v vs T w) : Fr [] w0 w := Sg.fr h
theorem Mny.lst (h : Mny w0 v vs T w) : Lst w w0.heap.size 48 1 v vs.length vs := Sg.ok h 0 (thLst w0.heap.size 48 v vs) rfl
theorem Mny.at {k : Nat} {t : Rr} (h : Mny w0 v vs T w) (hk : T[k]? = some t) : RS w0.heap.size w t.g t.a t.F := Sg.ok h (k + 1) (thR w0.heap.size t) (by
  rw [List.getElem?_cons_succ, List.getElem?_map, hk]
  rfl)
theorem Mny.start (w : World) : Mny w (.slice none 0 0) [] [] w := by
  have h := (Sg.none w).push (t := thLst w.heap.size 48 (.slice none 0 0) []) (Fr.refl _ _) (Lst.nil _ _ _ _) (fun x hx => by cases hx)
  exact h
/-- One of them turned. -/
theorem Mny.turn {k g : Nat} {a a' : RA} {F : List Nat} {r : Value} {e : Ending} (h : Mny w0 v vs T w) (hk : T[k]? = some ⟨g, a, F⟩) (ho : RO w0.heap.size g a' F r w e w') :
    e = .returned r ∧ ∃ F', Mny w0 v vs (T.set k ⟨g, a', F'⟩) w' := by
  obtain ⟨rfl, F', k1, k2, k3⟩ := ho
  refine ⟨rfl, F', ?_⟩
  have h1 := Sg.set (i := k + 1) (t := thR w0.heap.size ⟨g, a, F⟩) (t' := thR w0.heap.size ⟨g, a', F'⟩) h (by
    rw [List.getElem?_cons_succ, List.getElem?_map, hk]
    rfl) k2 k1 k3
  rw [List.set_cons_succ, ← List.map_set] at h1
  exact h1
/-- A new one, behind the others. -/
theorem Mny.new (h : Mny w0 v vs T w) : Calls Tryz.prog 44 #[.int .i64 2, .int .i64 4, .int .i64 2] w fun e w' => ∃ g F, e = .returned (.tuple #[.pointer (some ⟨g, 0, none⟩), .int .i64 0]) ∧ Mny w0 v vs (T ++ [⟨g, newA 2 4 2, F⟩]) w' := by
  refine (new_ok 2 4 2 w (by omega) (by omega) (by omega)).mono ?_
  rintro e w' ⟨g, gT, gH, rfl, h1, h2, h3, h4, h5⟩
  obtain ⟨F, hF⟩ := fresh_rs (b0 := w.heap.size) h5 h2 h3 h4
  refine ⟨g, F, rfl, ?_⟩
  have := Sg.push (t := thR w0.heap.size ⟨g, newA 2 4 2, F⟩) h h1 (RS.low hF (Sg.fr h).size) (fun x hx => hF.base x hx)
  show Sg w0 (_ :: (T ++ [_]).map _) w'
  rw [List.map_append]
  exact this
theorem Mny.push {g : Nat} {F : List Nat} (h : Mny w0 v vs (T ++ [⟨g, newA 2 4 2, F⟩]) w) :
    Calls Tryz.prog 45 #[.pointer (some ⟨g, 0, none⟩), .int .i64 0, .int .i64 2] w fun e w' => e = .returned (.int .i64 0) ∧ ∃ F', Mny w0 v vs (T ++ [⟨g, mk0, F'⟩]) w' := by
  have hk : (T ++ [(⟨g, newA 2 4 2, F⟩ : Rr)])[T.length]? = some ⟨g, newA 2 4 2, F⟩ := by simp
  refine (push_any (h.at hk) h.fr.size 0 2).mono ?_
  intro e w' ho
  rw [mk_push] at ho
  obtain ⟨rfl, F', h2⟩ := h.turn hk ho
  refine ⟨rfl, F', ?_⟩
  rw [List.set_append_right _ _ (Nat.le_refl _), Nat.sub_self] at h2
  exact h2
/-- The list of them grew. -/
theorem Mny.grown {v' : Value} {vs' : List Value} {S : List Nat} (h : Mny w0 v vs T w) (hf : Fr S w w') (hS : ∀ x ∈ S, x ∈ v.ownBlock.toList) (hL : Lst w' w0.heap.size 48 1 v' vs'.length vs')
    (hat : v'.ownBlock = v.ownBlock ∨ ∃ z, v'.ownBlock = some z ∧ w.heap.size ≤ z) : Mny w0 v' vs' T w' := by
  have := Sg.set (i := 0) (t := thLst w0.heap.size 48 v vs) (t' := thLst w0.heap.size 48 v' vs') h rfl (hf.mono fun x hx => .inl (hS x hx)) hL (fun x hx => by
    have hx : v'.ownBlock = some x := by simpa [thLst] using hx
    rcases hat with e | ⟨z, e, hz⟩
    · exact .inl (by show x ∈ v.ownBlock.toList; rw [← e, hx]; simp)
    · rw [hx] at e
      cases e
      exact .inr hz)
  exact this
theorem Mny.opens {k g : Nat} {F : List Nat} (h : Mny w0 v vs T w) (hk : T[k]? = some ⟨g, mk0, F⟩) (x : Int) (hx : 0 ≤ x) :
    Calls Tryz.prog 11 #[.pointer (some ⟨g, 0, none⟩), .int .i64 x] w fun e w' => e = .returned (.tuple #[.int .i64 0, .int .i64 0]) ∧ ∃ F', Mny w0 v vs (T.set k ⟨g, mkO x, F'⟩) w' := by
  refine (open_any (h.at hk) x).mono ?_
  intro e w' ho
  rw [mk_open x hx] at ho
  exact h.turn hk ho
theorem Mny.sets {k g : Nat} {F : List Nat} {x : Int} (h : Mny w0 v vs T w) (hk : T[k]? = some ⟨g, mkO x, F⟩) (y : Int) (hy : 0 ≤ y) :
    Calls Tryz.prog 46 #[.pointer (some ⟨g, 0, none⟩), .int .i64 0, .int .i64 1, .int .i64 y] w fun e w' => e = .returned (.int .i64 0) ∧ ∃ F', Mny w0 v vs (T.set k ⟨g, mkS x y, F'⟩) w' := by
  refine (set_any (h.at hk) h.fr.size 0 1 y).mono ?_
  intro e w' ho
  rw [show setA (⟨g, mkO x, F⟩ : Rr).a 0 1 y = (mkS x y, 0) from mk_set x y hy] at ho
  exact h.turn hk ho
theorem Mny.enqs {k g : Nat} {F : List Nat} {x y : Int} (h : Mny w0 v vs T w) (hk : T[k]? = some ⟨g, mkS x y, F⟩) (z : Int) (hz : 0 ≤ z) :
    Calls Tryz.prog 10 #[.pointer (some ⟨g, 0, none⟩), .int .i64 z] w fun e w' => e = .returned (.tuple #[]) ∧ ∃ F', Mny w0 v vs (T.set k ⟨g, mkQ x y z, F'⟩) w' := by
  refine (enq_any (h.at hk) h.fr.size (by show (0:Nat) ≤ _; omega) z).mono ?_
  intro e w' ho
  rw [show enqA (⟨g, mkS x y, F⟩ : Rr).a z = mkQ x y z from mk_enq x y z hz] at ho
  exact h.turn hk ho
/-- What is asked of one of them: a list of its own. -/
def Asked (w0 : World) (v : Value) (vs : List Value) (T : List Rr) (l : List Int) (e : Ending) (w' : World) : Prop :=
  ∃ A c, e = .returned (.slice A l.length c) ∧ Mny w0 v vs T w' ∧ RdI w' A l
theorem Mny.asked {f : FuncId} {args : Array Value} {l : List Int} (h : Mny w0 v vs T w) (hc : Calls Tryz.prog f args w (NewL l w)) : Calls Tryz.prog f args w (Asked w0 v vs T l) := by
  refine hc.mono ?_
  rintro e w' ⟨v, rfl, hL, hf⟩
  obtain ⟨A, c, rfl, _, _⟩ := hL.look
  exact ⟨A, c, rfl, h.quiet hf, lst_rdi hL⟩
theorem Mny.all {k g : Nat} {F : List Nat} {x y z : Int} (h : Mny w0 v vs T w) (hk : T[k]? = some ⟨g, mkQ x y z, F⟩) (hx : 0 < x) (hy : 0 < y) (hz : 0 < z) :
    Calls Tryz.prog 12 #[.pointer (some ⟨g, 0, none⟩)] w (Asked w0 v vs T [y, x, z]) := by
  refine (all_any (h.at hk) h.fr.size (by show (1:Nat) ≤ _; omega)).mono ?_
  rintro e w' ⟨u, rfl, hL, hR, hf⟩
  rw [show rootsA (⟨g, mkQ x y z, F⟩ : Rr).a = [y, x, z] from mk_roots x y z hx hy hz] at hL
  obtain ⟨A, c, rfl, _, _⟩ := hL.look
  refine ⟨A, c, rfl, ?_, lst_rdi hL⟩
  have h2 := Sg.set (i := k + 1) (t := thR w0.heap.size ⟨g, mkQ x y z, F⟩) (t' := thR w0.heap.size ⟨g, mkQ x y z, F⟩) h (by
    rw [List.getElem?_cons_succ, List.getElem?_map, hk]
    rfl) hf hR (fun x hx => .inl hx)
  rw [List.set_cons_succ, ← List.map_set] at h2
  have e : T.set k ⟨g, mkQ x y z, F⟩ = T := by
    obtain ⟨h3, h4⟩ := List.getElem?_eq_some_iff.1 hk
    rw [← h4]
    exact List.set_getElem_self h3
  rw [e] at h2
  exact h2
theorem Mny.hnds {k g : Nat} {F : List Nat} {x y z : Int} (h : Mny w0 v vs T w) (hk : T[k]? = some ⟨g, mkQ x y z, F⟩) :
    Calls Tryz.prog 13 #[.pointer (some ⟨g, 0, none⟩)] w (Asked w0 v vs T [x, -1]) := h.asked (handles_any (h.at hk))
theorem Mny.queue {k g : Nat} {F : List Nat} {x y z : Int} (h : Mny w0 v vs T w) (hk : T[k]? = some ⟨g, mkQ x y z, F⟩) :
    Calls Tryz.prog 14 #[.pointer (some ⟨g, 0, none⟩)] w (Asked w0 v vs T [z]) := h.asked (queue_any (h.at hk) (by show (1:Nat) ≤ _; omega))
theorem Mny.frms {k g : Nat} {F : List Nat} {x y z : Int} (h : Mny w0 v vs T w) (hk : T[k]? = some ⟨g, mkQ x y z, F⟩) :
    Calls Tryz.prog 15 #[.pointer (some ⟨g, 0, none⟩), .int .i64 0] w (Asked w0 v vs T [2]) := h.asked (frames_any (h.at hk) 0)
/-- Where the k-th of them stands. -/
theorem Mny.cell {n : Nat} (h : Mny w0 v vs T w) (hn : vs.length = n) (hv : 0 < n) : ∃ b off cap, v = .slice (some ⟨b, off, none⟩) n cap ∧ n ≤ cap := by
  subst hn
  obtain ⟨b, off, cap, h1, _, _, h2, _⟩ := h.lst.form hv
  exact ⟨b, off, cap, h1, h2⟩
theorem Mny.load {k b off n cap : Nat} {u : Value} (h : Mny w0 (.slice (some ⟨b, off, none⟩) n cap) vs T w) (hu : vs[k]? = some u) : w.cell? ⟨b, off + k, none⟩ = some u := by
  have hv : 0 < vs.length := by
    have := (List.getElem?_eq_some_iff.1 hu).1
    omega
  obtain ⟨b', off', cap', h1, _, _, _, _, _, _, hc⟩ := h.lst.form hv
  injection h1 with e1 _ _
  injection e1 with e1
  injection e1 with e1 e2 _
  subst e1
  subst e2
  exact hc k u hu
end
end Go.Proofs.YtdcppdgnekhcgaaGreatDoor
