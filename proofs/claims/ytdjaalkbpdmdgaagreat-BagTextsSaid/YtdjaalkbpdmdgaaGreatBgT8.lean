/-
  Bag: begin: the desk with all its things.
-/
import Derived.Test.YtdjaalkbpdmdgaaGreatBgT7
namespace Go.Proofs.YtdjaalkbpdmdgaaGreat
open Go.RowKit
set_option linter.unusedVariables false

def nilS : Value := .slice none 0 0
/-- What a round makes. -/
def tenL (b0 : Nat) (p : Nat → Nat) (mo : Int) : List (Th b0) :=
  [thSk 121 b0 (p 0) mo nilS [], thSk 122 b0 (p 1) mo nilS [], thSx 124 b0 (p 2) mo nilS [], thTbN b0 (p 3) nilS [], thTbT b0 (p 4) nilS [],
   thNb 77 3 b0 (p 5) nilS mo [], thNb 77 3 b0 (p 6) nilS mo [], thNb 79 9 b0 (p 7) nilS mo [],
   thRw 71 3 29 b0 (p 8) nilS nilS [] [], thRw 74 9 3 b0 (p 9) nilS nilS [] []]
theorem tenL_len (b0 : Nat) (p : Nat → Nat) (mo : Int) : (tenL b0 p mo).length = 10 := rfl
def Made (w0 : World) (Ts : List (Th w0.heap.size)) (p : Nat → Nat) (mo : Int) (i : Nat) : Prop := ∀ (j : Nat) (t : Th w0.heap.size), (tenL w0.heap.size p mo)[j]? = some t → Ts[2 + 10 * i + j]? = some t
def ptV (g : Nat) : Value := .pointer (some ⟨g, 0, none⟩)
def moOf (a : Int) : Int := if a < 0 then 0 else a
/-- The desk with k rounds done. -/
def BI (w0 : World) (gd gm : Nat) (orig : Nat → Int) (k : Nat) (w : World) : Prop :=
  ∃ (pt : Nat → Nat → Nat) (Ts : List (Th w0.heap.size)) (f : Nat → Value) (m : Nat → Int), Sg w0 Ts w ∧ Ts.length = 2 + 10 * k ∧ Ts[0]? = some (thBox w0.heap.size gd 52 (deskA f)) ∧ Ts[1]? = some (thBox w0.heap.size gm 53 (mostA m)) ∧
    (∀ i, i < k → Made w0 Ts (pt i) (moOf (orig i)) i ∧ ∀ j, j < 10 → f (2 * j + i) = ptV (pt i j)) ∧ ∀ i, k ≤ i → m i = orig i
def nth (l : List Nat) (j : Nat) : Nat := l.getD j 0
/-- A round's end. -/
theorem BJ.round {w0 w : World} {gd gm k : Nat} {orig : Nat → Int} {pt : Nat → Nat → Nat} {Ts : List (Th w0.heap.size)} {f f' : Nat → Value} {m' : Nat → Int} {ps : List Nat} (hk : k < 2) (h : BJ w0 gd gm Ts (tenL w0.heap.size (nth ps) (moOf (orig k))) f' m' w) (hl : Ts.length = 2 + 10 * k)
    (hi : ∀ i, i < k → Made w0 Ts (pt i) (moOf (orig i)) i ∧ ∀ j, j < 10 → f (2 * j + i) = ptV (pt i j)) (hf1 : ∀ j, j < 10 → f' (2 * j + k) = ptV (nth ps j)) (hf2 : ∀ x, x % 2 ≠ k → f' x = f x) (hm : ∀ i, k + 1 ≤ i → m' i = orig i) : BI w0 gd gm orig (k + 1) w := by
  obtain ⟨T, h1, h2, h3, h4, h5, h6⟩ := h
  rw [tenL_len] at h2
  refine ⟨fun i => if i = k then nth ps else pt i, T, f', m', h1, by omega, h4, h5, fun i hik => ?_, hm⟩
  by_cases e : i = k
  · subst e
    simp only [if_pos]
    refine ⟨fun j t ht => ?_, hf1⟩
    rw [← hl]
    exact h6 j t ht
  · simp only [if_neg e]
    obtain ⟨k1, k2⟩ := hi i (by omega)
    refine ⟨fun j t ht => ?_, fun j hj => ?_⟩
    · have hj := (List.getElem?_eq_some_iff.1 ht).1
      rw [tenL_len] at hj
      rw [h3 _ (by omega) (by omega)]
      exact k1 j t ht
    · rw [hf2 _ (by omega)]
      exact k2 j hj
theorem upd_eq {f : Nat → Value} {x : Nat} {v : Value} : upd f x v x = v := by simp [upd]
theorem upd_ne {f : Nat → Value} {x y : Nat} {v : Value} (h : y ≠ x) : upd f x v y = f y := by simp [upd, h]
theorem round_desk {f : Nat → Value} {k g0 g1 g2 g3 g4 g5 g6 g7 g8 g9 : Nat} {f' : Nat → Value} (hk : k < 2) (h : f' = upd (upd (upd (upd (upd (upd (upd (upd (upd (upd f k (ptV g0)) (2 + k) (ptV g1)) (4 + k) (ptV g2)) (6 + k) (ptV g3)) (8 + k) (ptV g4)) (10 + k) (ptV g5)) (12 + k) (ptV g6)) (14 + k) (ptV g7)) (16 + k) (ptV g8)) (18 + k) (ptV g9)) :
    (∀ j, j < 10 → f' (2 * j + k) = ptV (nth [g0, g1, g2, g3, g4, g5, g6, g7, g8, g9] j)) ∧ ∀ x, x % 2 ≠ k → f' x = f x := by
  subst h
  refine ⟨fun j hj => ?_, fun x hx => ?_⟩
  · have : j = 0 ∨ j = 1 ∨ j = 2 ∨ j = 3 ∨ j = 4 ∨ j = 5 ∨ j = 6 ∨ j = 7 ∨ j = 8 ∨ j = 9 := by omega
    rcases this with rfl | rfl | rfl | rfl | rfl | rfl | rfl | rfl | rfl | rfl
    all_goals
      unfold upd nth
      repeat (first | rw [if_pos (by omega)] | rw [if_neg (by omega)])
      rfl
  · unfold upd
    repeat rw [if_neg (by omega)]
end Go.Proofs.YtdjaalkbpdmdgaaGreat
