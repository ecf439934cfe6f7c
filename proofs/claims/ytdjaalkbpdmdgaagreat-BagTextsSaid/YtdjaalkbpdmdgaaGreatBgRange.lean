/-
  A range over a method value whose rounds all go on (a round that gathers).
-/
import Derived.RangeFuncNested
import Derived.RangeFuncBound
import Derived.RangeFuncCalls
import Derived.RangeFuncLeaves
import Derived.RangeFuncWrites
import Derived.Shelf.Abstract
import Derived.WalkKit
import Derived.OwnWalkIn
import Derived.TacticsInMore
import Derived.LoopNIn
import Derived.LoopIn
import Derived.Test.YtdjaalkbpdmdgaaGreatBg1
namespace Go.Proofs.YtdjaalkbpdmdgaaGreat
open Go.RowKit Go.Shelf
set_option linter.unusedVariables false
attribute [local go_sem] Oper.semAt_some

/-- The iterator hands on each thing of some list in turn, where the rounds all say 'go on'. -/
def Hands {α : Type} (F : Fence) (n : Nat) (P : Program) (g : Nat) (fi : Array Value) (encs : α → Array Value) (Kp : World → World → Prop) (S : List α → Prop) (N : Nat) (w : World) : Prop :=
  ∀ (l : Nat) (J : List α → World → Prop) (W : World), Below w.heap.size w W → AbidesFrom W.heap.size J →
    (∀ pre x W1, J pre W1 → pre.length < N → YieldAt F (n - 1) P l (encs x) W1 fun e W' => e = .returned (.bool true) ∧ J (pre ++ [x]) W' ∧ Kp W1 W') →
    J [] W → CallsIn F n P g (fi ++ #[.func (.yield l) #[] #[]]) W fun e W' => (∃ v, e = .returned v) ∧ ∃ xs, S xs ∧ J xs W'

def goesOn {α : Type} (B : Nat) (Kp : World → World → Prop) (I : List α → World → Prop) (xs : List α) (W : World) : Exit → Act → World → Prop
  | .normal, _, W' => KeepsFrom B W W' ∧ Kp W W' ∧ I xs W'
  | _, _, _ => False

theorem wpIn_range_method {F : Fence} {n : Nat} {P : Program} {α : Type} {g : Operand} {ps : Array Tmp} {assign body : Code} {Q : Exit → Act → World → Prop} {a : Act} {w : World}
    (hro : F.round = none) (h1 : 1 ≤ n) {gf : Nat} {fi : Array Value} (hg : a.eval g = .func (.func gf) fi #[]) (hFg : F.fn gf) (eg : ∀ args w, (callFunc gf args).run P w = .ok (.enter gf args) w)
    {encs : α → Array Value} {Kp : World → World → Prop} {S : List α → Prop} {N : Nat} (hseq : Hands F (n - 1) P gf fi encs Kp S N w)
    (hKt : ∀ {A B C : World}, Kp A B → Kp B C → Kp A C) (hKb : ∀ (W : World) (l : Nat) (o o' : Obj), w.heap.size ≤ l → W.heap[l]? = some o → o.isCells = false → Kp W (W.putObj l o')) (hps : ∀ x, (encs x).size = ps.size)
    (I : List α → World → Prop) (hI : OwnFrom w.heap.size I) (h0 : I [] w) (Ax : α → Act → World → Prop) (hAx : ∀ x a', OwnFrom w.heap.size (fun (_ : Unit) W => Ax x a' W))
    (hassign : ∀ (l : Nat) (pre : List α) (x : α) (W : World) (K : Act → World → Prop), I pre W → (∀ a' W', KeepsFrom w.heap.size W W' → Kp W W' → I pre W' → Ax x a' W' → K a' W') →
      assign.wpIn (F.inRound l) (n - 1 - 1) P (Exit.then K (fun _ _ _ => False)) { tmps := (ps.zip (encs x)).foldl (fun t (p, v) => t.setIfInBounds p v) a.tmps, defers := [] } W)
    (hbody : ∀ (l : Nat) (pre : List α) (x : α) (a' : Act) (W : World), I pre W → Ax x a' W → pre.length < N → body.wpIn (F.inRound l) (n - 1 - 1) P (goesOn w.heap.size Kp I (pre ++ [x]) W) a' W)
    (hdone : ∀ (D : Nat) (xs : List α) (W : World), w.heap.size ≤ D → S xs → I xs W → W.heap[D]? = some (.deferred (some [])) → Q .normal { a with defers := { target := .collected D, args := #[] } :: a.defers } W) :
    (Code.rangeFunc g ps assign body).wpIn F n P Q a w := by
  refine wpIn_rangeFunc fun fn hfn => ?_
  rw [hro]
  obtain ⟨R, hR⟩ : ∃ R : LoopState → Loop, R = fun st => { state := st, pending := none, fn, tmps := a.tmps, params := ps, assign, body, defers := w.heap.size } := ⟨_, rfl⟩
  obtain ⟨X, hX⟩ : ∃ X, X = (w.alloc (.deferred (some []))).alloc (.loop (R .ready)) := ⟨_, rfl⟩
  have kL : X.heap[w.heap.size + 1]? = some (.loop (R .ready)) := by
    have h := World.alloc_heap_new (w.alloc (.deferred (some []))) (.loop (R .ready))
    rw [World.size_alloc] at h
    rw [hX]
    exact h
  have kD : X.heap[w.heap.size]? = some (.deferred (some [])) := by
    rw [hX]
    exact (Below.heap_alloc _ _ _ (by simp)).trans (World.alloc_heap_new w _)
  have kI : I [] X := by rw [hX]; exact hI.alloc _ (hI.alloc _ h0)
  have kB : Below w.heap.size w X := by rw [hX]; exact ((Below.refl _ w).alloc (Nat.le_refl _) _).alloc (by simp) _
  refine ⟨w.heap.size + 1, [{ target := .collected w.heap.size, args := #[] }], X, { target := .fn (.func gf) #[], args := fi ++ #[.func (.yield (w.heap.size + 1)) #[] #[]] }, X, gf, fi ++ #[.func (.yield (w.heap.size + 1)) #[] #[]], X, ?_, ?_, ?_, ?_, fun _ => h1, ?_⟩
  · rw [hX, hR]
    exact run_enterLoop_outer _ _ _ _ _
  · simp only [resolve, rangeCall, hg]
    simp [go_sem]
  · intro f' hf'
    simp [Target.leads] at hf'
    subst hf'
    exact hFg
  · simp [invoke, go_sem, eg]
  · have away : ∀ {A B : World} {row : Option Nat}, (∀ r, row = some r → X.heap.size ≤ r ∧ ∃ o : Obj, A.heap[r]? = some o ∧ o.isWalk = true) → (∀ r, row = some r → w.heap.size ≤ r ∧ ∃ o : Obj, A.heap[r]? = some o ∧ o.isCells = false) := by
      intro A B row hr r e
      obtain ⟨hB, o, ho, hw⟩ := hr r e
      exact ⟨Nat.le_trans kB.size hB, o, ho, Obj.not_cells_of_walk hw⟩
    refine (hseq (w.heap.size + 1) (fun pre W => I pre W ∧ W.heap[w.heap.size + 1]? = some (.loop (R .ready)) ∧ W.heap[w.heap.size]? = some (.deferred (some []))) X kB ?_ ?_ ⟨kI, kL, kD⟩).mono ?_
    · intro s A B row hs hg' hr
      exact ⟨hI s A B row hs.1 hg' (away (B := B) hr), (grownBy_keeps hg' (fun r e => (hr r e).2) hs.2.1 rfl).trans hs.2.1, (grownBy_keeps hg' (fun r e => (hr r e).2) hs.2.2 rfl).trans hs.2.2⟩
    · rintro pre x W ⟨hi, hl, hd⟩ hlen
      have hy := run_yield (P := P) (args := encs x) hl (by rw [hR]; exact hps x)
      rw [hR] at hy
      refine ⟨fn, _, assign, body, hy, roundIn_of_wpIn hfn (hassign _ pre x W _ hi fun a' W0 q1 q2 q3 q4 => ?_)⟩
      have hl := q1.same _ _ (by omega) hl rfl
      have hd := q1.same _ _ (Nat.le_refl _) hd rfl
      have hi := q3
      clear hy q1 q3
      refine ⟨_, run_beginRound hl (by rw [hR]), ?_⟩
      obtain ⟨Y, hY⟩ : ∃ Y, Y = W0.putObj (w.heap.size + 1) (.loop { R .ready with state := .busy }) := ⟨_, rfl⟩
      have yl : Y.heap[w.heap.size + 1]? = some (.loop { R .ready with state := .busy }) := by rw [hY]; exact World.putObj_heap_same (Array.getElem?_eq_some_iff.1 hl).1
      have yd : Y.heap[w.heap.size]? = some (.deferred (some [])) := by rw [hY]; exact (World.putObj_heap_other (by omega)).trans hd
      have yk : Kp W0 Y := by rw [hY]; exact hKb _ _ _ _ (by omega) hl rfl
      have yi : I pre Y := by rw [hY]; exact hI.putObj _ hi (by omega) hl rfl
      have ya : Ax x a' Y := by rw [hY]; exact (hAx x a').putObj (s := ()) _ q4 (by omega) hl rfl
      rw [← hY]
      refine wpIn_mono (hbody _ pre x a' Y yi ya hlen) ?_
      intro e a3 Z hp
      cases e with
      | normal =>
        obtain ⟨z1, z2, z3⟩ := hp
        have zl := z1.same _ _ (by omega) yl rfl
        have zd := z1.same _ _ (Nat.le_refl _) yd rfl
        have he := run_endRound (P := P) none zl
        refine ⟨_, _, he, rfl, ⟨hI.putObj _ z3 (by omega) zl rfl, ?_, (World.putObj_heap_other (by omega)).trans zd⟩, hKt q2 (hKt (hKt yk z2) (hKb _ _ _ _ (by omega) zl rfl))⟩
        have := World.putObj_heap_same (o := .loop { ({ R .ready with state := .busy } : Loop) with state := if (none : Option Code).isNone then .ready else .done, pending := none }) (Array.getElem?_eq_some_iff.1 zl).1
        rw [this, hR]
        rfl
      | ret => exact hp.elim
      | exit id => exact hp.elim
      | goto t => exact hp.elim
      | panic ch => exact hp.elim
      | outgrown => exact hp.elim
    · rintro e Z ⟨⟨v, rfl⟩, xs, hS, hi, hl, hd⟩
      have he := run_endLoop (P := P) hl (by rw [hR]; simp)
      rw [show (R .ready).pending = none by rw [hR]] at he
      exact ⟨none, _, he, hdone _ xs _ (Nat.le_refl _) hS (hI.putObj _ hi (by omega) hl rfl) ((World.putObj_heap_other (by omega)).trans hd)⟩
end Go.Proofs.YtdjaalkbpdmdgaaGreat
