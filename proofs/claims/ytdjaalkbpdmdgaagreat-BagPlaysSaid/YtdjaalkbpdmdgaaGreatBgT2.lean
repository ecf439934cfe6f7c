/-
  Bag: the containers and the document's lists as things side by side; a call's end.
-/
import Derived.Test.YtdjaalkbpdmdgaaGreatBgR1
namespace Go.Proofs.YtdjaalkbpdmdgaaGreat
open Go.RowKit
set_option linter.unusedVariables false

def thSk (t : TypeId) (b0 g : Nat) (most : Int) (v : Value) (l : List Int) : Th b0 :=
  ⟨skT g v, fun w => Sk t b0 w g most v l, fun h hf hS => h.fr hf (hS g (by simp [skT])) (fun k hk => hS k (by simp [skT, hk])), fun h x hx => ⟨h.base x hx, h.lt x hx⟩⟩
def thNb (t et : TypeId) (b0 g : Nat) (v : Value) (most : Int) (xs : List Value) : Th b0 :=
  ⟨skT g v, fun w => Nb t et b0 w g v most xs, fun h hf hS => h.fr hf hS, fun h => h.lt⟩
section
variable {w0 w w' : World} {Ts Us : List (Th w0.heap.size)} {e : Ending} {r v : Value} {g i : Nat} {most : Int}
theorem Sg.sk {t : TypeId} {l l' : List Int} (h : Sg w0 Ts w) (hi : Ts[i]? = some (thSk t w0.heap.size g most v l)) (ho : SkTo t w0.heap.size g most v l' r w e w') : e = .returned r ∧ ∃ v', Sg w0 (Ts.set i (thSk t w0.heap.size g most v' l')) w' := by
  obtain ⟨h1, v', h2, h3, h4⟩ := ho
  exact ⟨h1, v', h.set hi h3 h2 h4⟩
theorem Sg.nb {t et : TypeId} {xs xs' : List Value} (h : Sg w0 Ts w) (hi : Ts[i]? = some (thNb t et w0.heap.size g v most xs)) (ho : NbTo t et w0.heap.size g v most xs' r w e w') : e = .returned r ∧ ∃ v', Sg w0 (Ts.set i (thNb t et w0.heap.size g v' most xs')) w' := by
  obtain ⟨h1, v', h2, h3, h4⟩ := ho
  exact ⟨h1, v', h.set hi h3 h2 h4⟩
theorem Sg.sk_at {t : TypeId} {l : List Int} (h : Sg w0 Ts w) (hi : Ts[i]? = some (thSk t w0.heap.size g most v l)) : Sk t w0.heap.size w g most v l := h.ok i _ hi
theorem Sg.nb_at {t et : TypeId} {xs : List Value} (h : Sg w0 Ts w) (hi : Ts[i]? = some (thNb t et w0.heap.size g v most xs)) : Nb t et w0.heap.size w g v most xs := h.ok i _ hi
/-- Only these two have turned. -/
def Chg (Ts Ts' : List (Th w0.heap.size)) (ja jb : Nat) : Prop := Ts'.length = Ts.length ∧ ∀ j, j ≠ ja → j ≠ jb → Ts'[j]? = Ts[j]?
theorem Chg.refl (Ts : List (Th w0.heap.size)) (ja jb : Nat) : Chg Ts Ts ja jb := ⟨rfl, fun _ _ _ => rfl⟩
theorem Chg.set1 {Ts' : List (Th w0.heap.size)} {ja jb : Nat} (h : Chg Ts Ts' ja jb) (t : Th w0.heap.size) : Chg Ts (Ts'.set ja t) ja jb :=
  ⟨by rw [List.length_set]; exact h.1, fun j h1 h2 => by rw [List.getElem?_set_ne (Ne.symm h1)]; exact h.2 j h1 h2⟩
theorem Chg.set2 {Ts' : List (Th w0.heap.size)} {ja jb : Nat} (h : Chg Ts Ts' ja jb) (t : Th w0.heap.size) : Chg Ts (Ts'.set jb t) ja jb :=
  ⟨by rw [List.length_set]; exact h.1, fun j h1 h2 => by rw [List.getElem?_set_ne (Ne.symm h2)]; exact h.2 j h1 h2⟩
theorem Chg.cut {Ts' : List (Th w0.heap.size)} {ja jb : Nat} (h : Chg (Ts ++ Us) Ts' ja jb) (ha : ja < Ts.length) (hb : jb < Ts.length) : Chg Ts (Ts'.take Ts.length) ja jb := by
  have hl := h.1
  rw [List.length_append] at hl
  refine ⟨by rw [List.length_take]; omega, fun j h1 h2 => ?_⟩
  rw [List.getElem?_take]
  split
  · rename_i hj
    rw [h.2 j h1 h2, List.getElem?_append_left hj]
  · rw [List.getElem?_eq_none (by omega)]
end
end Go.Proofs.YtdjaalkbpdmdgaaGreat
