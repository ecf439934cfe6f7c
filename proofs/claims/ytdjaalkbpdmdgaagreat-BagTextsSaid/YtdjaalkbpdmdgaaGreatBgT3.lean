/-
  Bag: a call of a container, as the document's list answers.
-/
import Derived.Test.YtdjaalkbpdmdgaaGreatBgR2
import Derived.Test.YtdjaalkbpdmdgaaGreatBgT2
import Derived.Test.YtdjaalkbpdmdgaaGreatBg15
import Derived.Deep.RegionHeld3
namespace Go.Proofs.YtdjaalkbpdmdgaaGreat
open Go.RowKit
set_option linter.unusedVariables false

def addS (most : Int) (L : List Int) (x : Int) : List Int := if fullB L.length most then L else x :: L
def addQ (most : Int) (L : List Int) (x : Int) : List Int := if fullB L.length most then L else L ++ [x]
def addE (most : Int) (L : List Int) : Int := if fullB L.length most then 11 else 0
def popX (L : List Int) : Int := match L with | [] => 0 | x :: _ => x
def popB (L : List Int) : Bool := match L with | [] => false | _ :: _ => true
theorem SkTo.same {t : TypeId} {b0 : Nat} {w w' : World} {g : Nat} {most : Int} {v : Value} {l : List Int} {r : Value} (h : Sk t b0 w g most v l) (hf : Fr [] w w') : SkTo t b0 g most v l r w (.returned r) w' :=
  ⟨rfl, v, h.fr hf (by simp) (by simp), hf.mono (by simp), fun x hx => .inl hx⟩
theorem stk_add (b0 g : Nat) (most : Int) (v : Value) (L : List Int) (x : Int) (w : World) (h : Sk 121 b0 w g most v L.reverse) (hl : L.length ≤ 1000000) (hb : b0 ≤ w.heap.size) :
    Calls Tryz.prog 30 #[.pointer (some ⟨g, 0, none⟩), .int .i64 x] w (SkTo 121 b0 g most v (addS most L x).reverse (.int .i64 (addE most L)) w) := by
  unfold addS addE
  cases hf : fullB L.length most with
  | true => exact stack_full b0 g most v _ x w h (by simpa using hf)
  | false =>
    have := stack_add b0 g most v _ x w h (by simpa using hf) (by simp; omega) hb (by decide)
    rw [← List.reverse_cons] at this
    exact this
theorem stk_take (b0 g : Nat) (most : Int) (v : Value) (L : List Int) (w : World) (h : Sk 121 b0 w g most v L.reverse) :
    Calls Tryz.prog 32 #[.pointer (some ⟨g, 0, none⟩)] w (SkTo 121 b0 g most v L.tail.reverse (.tuple #[.int .i64 (popX L), .bool (popB L)]) w) := by
  cases L with
  | nil => exact (stack_none b0 g most v w h).mono (fun e w' hh => by obtain ⟨rfl, rfl⟩ := hh; exact SkTo.same h (Fr.refl _ _))
  | cons x L =>
    have := stack_take b0 g most v _ L.length x w h (by simp) (by simp) (by decide)
    have e : (x :: L).reverse.take L.length = L.reverse := by
      rw [List.reverse_cons, List.take_left' (by simp)]
    rw [e] at this
    exact this
theorem que_add (b0 g : Nat) (most : Int) (v : Value) (L : List Int) (x : Int) (w : World) (h : Sk 122 b0 w g most v L) (hl : L.length ≤ 1000000) (hb : b0 ≤ w.heap.size) :
    Calls Tryz.prog 39 #[.pointer (some ⟨g, 0, none⟩), .int .i64 x] w (SkTo 122 b0 g most v (addQ most L x) (.int .i64 (addE most L)) w) := by
  unfold addQ addE
  cases hf : fullB L.length most with
  | true => exact queue_full b0 g most v _ x w h hf
  | false => exact queue_add b0 g most v _ x w h hf (by omega) hb (by decide)
theorem que_take (b0 g : Nat) (most : Int) (v : Value) (L : List Int) (w : World) (h : Sk 122 b0 w g most v L) :
    Calls Tryz.prog 41 #[.pointer (some ⟨g, 0, none⟩)] w (SkTo 122 b0 g most v L.tail (.tuple #[.int .i64 (popX L), .bool (popB L)]) w) := by
  cases L with
  | nil => exact (queue_none b0 g most v w h).mono (fun e w' hh => by obtain ⟨rfl, rfl⟩ := hh; exact SkTo.same h (Fr.refl _ _))
  | cons x L => exact queue_take b0 g most v _ L.length x w h (by simp) rfl L rfl (by decide)
theorem rfirst (b0 g : Nat) (v : Value) (most : Int) (L : List Int) (w : World) (h : Nb 77 3 b0 w g v most (iV L)) (hl : L.length ≤ 1000000) (hb : b0 ≤ w.heap.size) :
    Calls Tryz.prog 33 #[.pointer (some ⟨g, 0, none⟩)] w (NbTo 77 3 b0 g v most (iV L.tail) (.tuple #[.int .i64 (popX L), .bool (popB L)]) w) := by
  cases L with
  | nil => exact (rnoneN b0 g v most w h).mono (fun e w' hh => by obtain ⟨rfl, rfl⟩ := hh; exact NbTo.same h (Fr.refl _ _))
  | cons x L => exact rtakeN b0 g v most L x w h (by simp at hl; omega) hb
/-- upTo. -/
def stopN (n : Nat) (stop : Int) : Nat := if 1 ≤ stop ∧ stop < (n : Int) then stop.toNat else n
theorem stopN_le (n : Nat) (stop : Int) : stopN n stop ≤ n := by unfold stopN; split <;> omega
theorem stopL_len {α : Type} (L : List α) (stop : Int) : stopL L stop = L.take (stopN L.length stop) := by
  unfold stopL stopN
  by_cases h1 : 1 ≤ stop
  · rw [if_pos h1]
    by_cases h2 : stop < (L.length : Int)
    · rw [if_pos ⟨h1, h2⟩]
    · rw [if_neg (by omega), List.take_of_length_le (by omega), List.take_of_length_le (Nat.le_refl _)]
  · rw [if_neg h1, if_neg (by omega), List.take_of_length_le (Nat.le_refl _)]
theorem upTo_any (n : Nat) (stop : Int) (w : World) : Calls Tryz.prog 38 #[.int .i64 n, .int .i64 stop] w fun e w' => e = .returned (.int .i64 (stopN n stop : Nat)) ∧ w = w' := by
  by_cases h1 : 1 ≤ stop
  · have d1 : decide (1 ≤ stop) = true := decide_eq_true h1
    by_cases h2 : stop < (n : Int)
    · have d2 : decide (stop < (n : Int)) = true := decide_eq_true h2
      have e : ((stopN n stop : Nat) : Int) = stop := by unfold stopN; rw [if_pos ⟨h1, h2⟩]; omega
      rw [e]
      go_enter Tryz.func38, Tryz.ntmps38
      go_wp2_with fail
      go_ret
      exact ⟨rfl, rfl⟩
    · have d2 : decide (stop < (n : Int)) = false := decide_eq_false h2
      have e : stopN n stop = n := by unfold stopN; rw [if_neg (by omega)]
      rw [e]
      go_enter Tryz.func38, Tryz.ntmps38
      go_wp2_with fail
      go_ret
      exact ⟨rfl, rfl⟩
  · have d1 : decide (1 ≤ stop) = false := decide_eq_false h1
    have e : stopN n stop = n := by unfold stopN; rw [if_neg (by omega)]
    rw [e]
    go_enter Tryz.func38, Tryz.ntmps38
    go_wp2_with fail
    go_ret
    exact ⟨rfl, rfl⟩
/-- What a call of the desk leaves: a container and the document's list, both turned alike. -/
def DoN (w0 : World) (Ts : List (Th w0.heap.size)) (t : TypeId) (enc : List Int → List Int) (gs gr : Nat) (most : Int) (ja jb : Nat) (L : List Int) (e : Ending) (w' : World) : Prop :=
  e = .returned (.bool true) ∧ ∃ Ts' v v2, Sg w0 Ts' w' ∧ Chg Ts Ts' ja jb ∧ Ts'[ja]? = some (thSk t w0.heap.size gs most v (enc L)) ∧ Ts'[jb]? = some (thNb 77 3 w0.heap.size gr v2 most (iV L))
theorem DoN.of {w0 w' : World} {Ts : List (Th w0.heap.size)} {t : TypeId} {enc : List Int → List Int} {gs gr : Nat} {most : Int} {ja jb : Nat} {L : List Int} {Us Tx : List (Th w0.heap.size)} {v v2 : Value} (hx : Sg w0 Tx w') (hc : Chg (Ts ++ Us) Tx ja jb) (ha : ja < Ts.length) (hb : jb < Ts.length)
    (h1 : Tx[ja]? = some (thSk t w0.heap.size gs most v (enc L))) (h2 : Tx[jb]? = some (thNb 77 3 w0.heap.size gr v2 most (iV L))) : DoN w0 Ts t enc gs gr most ja jb L (.returned (.bool true)) w' := by
  refine ⟨rfl, Tx.take Ts.length, v, v2, hx.take _, hc.cut ha hb, ?_, ?_⟩
  · rw [List.getElem?_take, if_pos ha]; exact h1
  · rw [List.getElem?_take, if_pos hb]; exact h2
end Go.Proofs.YtdjaalkbpdmdgaaGreat
