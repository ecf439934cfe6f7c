/-
  Roots: what RootsHandles leans on (plain), and a scene with one more list.
-/
import Derived.Test.YtdcppdgnekhcgaaGreatDoorRtF1
import Derived.Test.YtdcppdgnekhcgaaGreatDoorLstBig
namespace Go.Proofs.YtdcppdgnekhcgaaGreatDoor
open Go.RowKit
set_option maxRecDepth 100000
set_option linter.unusedVariables false

def nnH (hs : List (Bool × Int)) : Prop := ∀ p ∈ hs, 0 ≤ p.2
theorem nnH_set {hs : List (Bool × Int)} (h : nnH hs) (k : Nat) (p : Bool × Int) (hp : 0 ≤ p.2) : nnH (hs.set k p) := fun q hq => by
  rcases List.mem_or_eq_of_mem_set hq with e | e
  · exact h q e
  · rw [e]; exact hp
theorem push_hs (a : RA) (t n : Int) : (pushA a t n).1.hs = a.hs := by unfold pushA; split; rfl; split; rfl; split <;> rfl
theorem pop_hs (a : RA) (t : Int) : (popA a t).1.hs = a.hs := by unfold popA; split; rfl; split <;> rfl
theorem set_hs (a : RA) (t n x : Int) : (setA a t n x).1.hs = a.hs := by unfold setA; split <;> rfl
theorem open_nn {a : RA} (h : nnH a.hs) (x : Int) : nnH (openA a x).1.hs := by
  unfold openA
  split
  · exact h
  · exact nnH_set h _ _ (by simp; omega)
theorem close_nn {a : RA} (h : nnH a.hs) (x : Int) : nnH (closeA a x).1.hs := by
  unfold closeA
  split
  · exact nnH_set h _ _ (by simp)
  · exact h
theorem playA_nn {a : RA} (h : nnH a.hs) (o : Oq) : nnH (playA a o).hs := by
  unfold playA
  split
  · rw [push_hs]; exact h
  split
  · rw [pop_hs]; exact h
  split
  · rw [set_hs]; exact h
  split
  · exact open_nn h _
  split
  · exact close_nn h _
  split
  · exact h
  split
  · rw [(deq_keep a).2.2]; exact h
  · exact h
theorem playL_nn (l : List Oq) : ∀ {a : RA}, nnH a.hs → nnH (playL a l).hs := by
  induction l with
  | nil => intro a h; exact h
  | cons o l ih => intro a h; exact ih (a := playA a o) (playA_nn h o)

/-- The first closed handle from j on; -1: none. -/
def frF (hs : List (Bool × Int)) (j : Nat) : Int := match (hs.drop j).findIdx? (fun p => !p.1) with
  | none => -1
  | some i => ((j + i : Nat) : Int)
theorem frF_end (hs : List (Bool × Int)) : frF hs hs.length = -1 := by
  unfold frF
  rw [List.drop_eq_nil_of_le (Nat.le_refl _)]
  rfl
theorem frF_zero (hs : List (Bool × Int)) : frF hs 0 = idxI (hs.findIdx? (fun p => !p.1)) := by
  unfold frF idxI
  rw [List.drop_zero]
  cases hs.findIdx? (fun p => !p.1) <;> simp
theorem frF_shut {hs : List (Bool × Int)} {j : Nat} {x : Int} (h : hs[j]? = some (false, x)) : frF hs j = (j : Int) := by
  unfold frF
  rw [drop_cons h, List.findIdx?_cons, if_pos (show (!((false, x) : Bool × Int).1) = true from rfl)]
  simp
theorem frF_open {hs : List (Bool × Int)} {j : Nat} {x : Int} (h : hs[j]? = some (true, x)) : frF hs j = frF hs (j + 1) := by
  unfold frF
  rw [drop_cons h, List.findIdx?_cons, if_neg (by simp)]
  cases (hs.drop (j + 1)).findIdx? (fun p => !p.1) with
  | none => rfl
  | some i =>
    show ((j + (i + 1) : Nat) : Int) = ((j + 1 + i : Nat) : Int)
    omega

/-- Behind k opens: mine are those that were opened, h0 what there was. -/
structure In1 (h0 : List (Bool × Int)) (vals : List Int) (k : Nat) (hs : List (Bool × Int)) (mine : List Nat) : Prop where
  len : mine.length = k
  same : hs.length = h0.length
  got : ∀ i q : Nat, mine[i]? = some q → ∃ v x, vals[i]? = some v ∧ h0[q]? = some (false, x) ∧ hs[q]? = some (true, max v 0)
  inj : ∀ i j q : Nat, mine[i]? = some q → mine[j]? = some q → i = j
  off : ∀ q : Nat, q ∉ mine → hs[q]? = h0[q]?
theorem In1.nil (h0 : List (Bool × Int)) (vals : List Int) : In1 h0 vals 0 h0 [] := ⟨rfl, rfl, fun i q h => by simp at h, fun i j q h => by simp at h, fun q _ => rfl⟩
theorem In1.step {h0 hs : List (Bool × Int)} {vals : List Int} {k q : Nat} {mine : List Nat} {v : Int} (h : In1 h0 vals k hs mine) (hv : vals[k]? = some v) (hf : hs.findIdx? (fun p => !p.1) = some q) : In1 h0 vals (k + 1) (hs.set q (true, max v 0)) (mine ++ [q]) := by
  obtain ⟨hq, hq1, _⟩ := List.findIdx?_eq_some_iff_getElem.1 hf
  have hqf : hs[q].1 = false := by simpa using hq1
  have hat : hs[q]? = some (false, hs[q].2) := by rw [List.getElem?_eq_getElem hq, ← hqf]
  have hnm : q ∉ mine := fun hm => by
    obtain ⟨i, hi⟩ := List.mem_iff_getElem?.1 hm
    obtain ⟨v', x, _, _, h3⟩ := h.got i q hi
    rw [hat] at h3
    injection h3 with h3
    injection h3 with h3 _
    cases h3
  refine ⟨by rw [List.length_append, h.len]; rfl, by rw [List.length_set]; exact h.same, fun i p hi => ?_, fun i j p hi hj => ?_, fun p hp => ?_⟩
  · by_cases hik : i < mine.length
    · rw [List.getElem?_append_left hik] at hi
      obtain ⟨v', x, e1, e2, e3⟩ := h.got i p hi
      refine ⟨v', x, e1, e2, ?_⟩
      have hne : q ≠ p := fun e => hnm (e ▸ List.mem_of_getElem? hi)
      rw [List.getElem?_set_ne hne]
      exact e3
    · rw [List.getElem?_append_right (by omega)] at hi
      have hi0 : i - mine.length = 0 := by
        have := (List.getElem?_eq_some_iff.1 hi).1
        simp at this
        omega
      rw [hi0] at hi
      have hp : q = p := by simpa using hi
      subst hp
      have hik2 : i = k := by have := h.len; omega
      subst hik2
      refine ⟨v, hs[q].2, hv, ?_, ?_⟩
      · rw [← h.off q hnm]; exact hat
      · rw [List.getElem?_set_self (by omega)]
  · have key : ∀ i, (mine ++ [q])[i]? = some p → (i < mine.length ∧ mine[i]? = some p) ∨ (i = mine.length ∧ p = q) := fun i hi => by
      by_cases hik : i < mine.length
      · rw [List.getElem?_append_left hik] at hi; exact .inl ⟨hik, hi⟩
      · rw [List.getElem?_append_right (by omega)] at hi
        have hi0 : i - mine.length = 0 := by
          have := (List.getElem?_eq_some_iff.1 hi).1
          simp at this
          omega
        rw [hi0] at hi
        exact .inr ⟨by omega, by simpa using hi.symm⟩
    rcases key i hi with ⟨_, a1⟩ | ⟨a1, a2⟩ <;> rcases key j hj with ⟨_, b1⟩ | ⟨b1, b2⟩
    · exact h.inj i j p a1 b1
    · exact absurd (List.mem_of_getElem? a1) (b2 ▸ hnm)
    · exact absurd (List.mem_of_getElem? b1) (a2 ▸ hnm)
    · omega
  · have hne : q ≠ p := fun e => hp (by simp [e])
    rw [List.getElem?_set_ne hne]
    exact h.off p (fun hm => hp (by simp [hm]))
/-- Behind j closes of them. -/
structure In3 (h0 : List (Bool × Int)) (vals : List Int) (mine : List Nat) (j : Nat) (hs : List (Bool × Int)) : Prop where
  same : hs.length = h0.length
  got : ∀ i q : Nat, j ≤ i → mine[i]? = some q → ∃ v, vals[i]? = some v ∧ hs[q]? = some (true, max v 0)
  shut : ∀ i q : Nat, i < j → mine[i]? = some q → hs[q]? = some (false, 0)
  was : ∀ i q : Nat, mine[i]? = some q → ∃ x, h0[q]? = some (false, x)
  inj : ∀ i j q : Nat, mine[i]? = some q → mine[j]? = some q → i = j
  off : ∀ q : Nat, q ∉ mine → hs[q]? = h0[q]?
theorem In1.to3 {h0 hs : List (Bool × Int)} {vals : List Int} {k : Nat} {mine : List Nat} (h : In1 h0 vals k hs mine) : In3 h0 vals mine 0 hs :=
  ⟨h.same, fun i q _ hi => by obtain ⟨v, x, a, b, c⟩ := h.got i q hi; exact ⟨v, a, c⟩, fun i q hi => by omega, fun i q hi => by obtain ⟨v, x, a, b, c⟩ := h.got i q hi; exact ⟨x, b⟩, h.inj, h.off⟩
theorem In3.step {h0 hs : List (Bool × Int)} {vals : List Int} {mine : List Nat} {j q : Nat} (h : In3 h0 vals mine j hs) (hq : mine[j]? = some q) : In3 h0 vals mine (j + 1) (hs.set q (false, 0)) := by
  have hlt : q < hs.length := by
    obtain ⟨v, _, h2⟩ := h.got j q (Nat.le_refl _) hq
    exact (List.getElem?_eq_some_iff.1 h2).1
  refine ⟨by rw [List.length_set]; exact h.same, fun i p hi hp => ?_, fun i p hi hp => ?_, h.was, h.inj, fun p hp => ?_⟩
  · obtain ⟨v, a, b⟩ := h.got i p (by omega) hp
    refine ⟨v, a, ?_⟩
    have hne : q ≠ p := fun e => by
      subst e
      have := h.inj i j q hp hq
      omega
    rw [List.getElem?_set_ne hne]
    exact b
  · by_cases e : i = j
    · subst e
      rw [hq] at hp
      injection hp with hp
      subst hp
      rw [List.getElem?_set_self hlt]
    · have b := h.shut i p (by omega) hp
      have hne : q ≠ p := fun e2 => by
        subst e2
        exact e (h.inj i j q hp hq)
      rw [List.getElem?_set_ne hne]
      exact b
  · have hne : q ≠ p := fun e => hp (e ▸ List.mem_of_getElem? hq)
    rw [List.getElem?_set_ne hne]
    exact h.off p hp
theorem In3.done {h0 hs : List (Bool × Int)} {vals : List Int} {mine : List Nat} (h : In3 h0 vals mine mine.length hs) : hs.map (fun p => if p.1 then p.2 else -1) = h0.map (fun p => if p.1 then p.2 else -1) := by
  apply List.ext_getElem?
  intro q
  rw [List.getElem?_map, List.getElem?_map]
  by_cases hq : q ∈ mine
  · obtain ⟨i, hi⟩ := List.mem_iff_getElem?.1 hq
    obtain ⟨x, hx⟩ := h.was i q hi
    rw [h.shut i q (List.getElem?_eq_some_iff.1 hi).1 hi, hx]
    rfl
  · rw [h.off q hq]
theorem handleA_at {a : RA} {q : Nat} {x : Int} (h : a.hs[q]? = some (true, x)) : handleA a (q : Int) = (x, 0) ∧ closeA a (q : Int) = ({ a with hs := a.hs.set q (false, 0) }, 0) := by
  have hlt := (List.getElem?_eq_some_iff.1 h).1
  have ho : isOpenA a (q : Int) = true := by
    unfold isOpenA
    rw [Int.toNat_natCast, List.getD, h]
    simp
    omega
  constructor
  · unfold handleA
    rw [if_pos ho, Int.toNat_natCast, List.getD, h]
    rfl
  · unfold closeA
    rw [if_pos ho, Int.toNat_natCast]
theorem closeA_shut {a : RA} {q : Nat} {x : Int} (h : a.hs[q]? = some (false, x)) : closeA a (q : Int) = (a, 55) := by
  unfold closeA
  rw [if_neg]
  unfold isOpenA
  rw [Int.toNat_natCast, List.getD, h]
  simp

/-- A scene with one more list, which grows. -/
def Sx (w0 : World) (g lo hi : Nat) (vb : Value) (L : List (List Int)) (vs : Value) (l : List Int) (a : RA) (vm : Value) (lm : List Int) (w : World) : Prop :=
  ∃ F, Sn w0 g a F w ∧ (∀ x ∈ F, x < lo ∨ hi ≤ x) ∧ LL lo hi w vb L ∧ NL lo hi w vs l ∧ hi ≤ w.heap.size ∧ Lst w hi 3 1 vm lm.length (iV lm) ∧ (∀ k, vm.ownBlock = some k → k ∉ F) ∧ w0.heap.size ≤ hi
section
variable {w0 w w' : World} {g lo hi : Nat} {vb vs vm : Value} {L : List (List Int)} {l lm : List Int} {a a' : RA}
theorem Sx.sc (h : Sx w0 g lo hi vb L vs l a vm lm w) : Sc w0 g lo hi vb L vs l a w := by
  obtain ⟨F, h1, h2, h3, h4, h5, _⟩ := h
  exact ⟨F, h1, h2, h3, h4, h5⟩
theorem Sc.sx (h : Sc w0 g lo hi vb L vs l a w) (h8 : w0.heap.size ≤ hi) : Sx w0 g lo hi vb L vs l a (.slice none 0 0) [] w := by
  obtain ⟨F, h1, h2, h3, h4, h5⟩ := h
  exact ⟨F, h1, h2, h3, h4, h5, Lst.nil _ _ _ _, (fun k hk => by cases hk), h8⟩
theorem Sx.nil (h : Sx w0 g lo hi vb L vs l a vm lm w) (hf : Fr [] w w') : Sx w0 g lo hi vb L vs l a vm lm w' := by
  obtain ⟨F, h1, h2, h3, h4, h5, h6, h7, h8⟩ := h
  exact ⟨F, h1.nil hf, h2, h3.fr hf (by simp), h4.fr hf (by simp), Nat.le_trans h5 hf.size, h6.fr hf (by simp), h7, h8⟩
theorem Sx.call {f : Nat} {args : Array Value} {r : Value} (h : Sx w0 g lo hi vb L vs l a vm lm w) (hc : ∀ F, RS w0.heap.size w g a F → w0.heap.size ≤ w.heap.size → Calls Tryz.prog f args w (RO w0.heap.size g a' F r w)) :
    Calls Tryz.prog f args w fun e w' => e = .returned r ∧ Sx w0 g lo hi vb L vs l a' vm lm w' := by
  obtain ⟨F, h1, h2, h3, h4, h5, h6, h7, h8⟩ := h
  refine (hc F h1.rs h1.fr.size).mono ?_
  intro e w' hro
  obtain ⟨he, F', k1, k2, k3⟩ := h1.to hro
  exact ⟨he, F', k1, fun x hx => by rcases k3 x hx with e | e; exact h2 x e; exact .inr (by omega), h3.fr k2 h2, h4.fr k2 h2, Nat.le_trans h5 k2.size, h6.fr k2 h7, fun k hk hx => by
    rcases k3 k hx with e | e
    · exact h7 k hk e
    · have := (h6.lt k hk).2; omega, h8⟩
theorem Sx.lst (h : Sx w0 g lo hi vb L vs l a vm lm w) : Lst w hi 3 1 vm lm.length (iV lm) := by
  obtain ⟨F, h1, h2, h3, h4, h5, h6, h7, h8⟩ := h
  exact h6
theorem Sx.hiw (h : Sx w0 g lo hi vb L vs l a vm lm w) : hi ≤ w.heap.size := by
  obtain ⟨F, h1, h2, h3, h4, h5, h6, h7, h8⟩ := h
  exact h5
/-- One more thing appended. -/
theorem Sx.grow {x : Int} {v2 : Value} {o : Obj} {w2 : World} (h : Sx w0 g lo hi vb L vs l a vm lm w) (hown : Lst w2 hi 3 1 v2 (lm.length + 1) (iV lm ++ [.int .i64 x])) (hg : (w.alloc o).grownBy w2 vm.ownBlock) (hat : v2.ownBlock = vm.ownBlock ∨ ∃ z, v2.ownBlock = some z ∧ w.heap.size ≤ z) : Sx w0 g lo hi vb L vs l a v2 (lm ++ [x]) w2 := by
  obtain ⟨F, h1, h2, h3, h4, h5, h6, h7, h8⟩ := h
  have hf : Fr vm.ownBlock.toList w w2 := ((Fr.refl _ w).alloc o).grown hg (fun j hj => .inl (by simp [hj]))
  have hS : ∀ x ∈ vm.ownBlock.toList, x < lo ∨ hi ≤ x := fun x hx => .inr (h6.lt x (by simpa using hx)).1
  have hlo := h1.rs.base
  refine ⟨F, ⟨h1.rs.fr hf (fun x hx hx' => h7 x (by simpa using hx') hx), h1.fr.trans hf (fun x hx => .inr ?_)⟩, h2, h3.fr hf hS, h4.fr hf hS, Nat.le_trans h5 hf.size, ?_, fun k hk hx => ?_, h8⟩
  · exact Nat.le_trans h8 (h6.lt x (by simpa using hx)).1
  · rw [List.length_append]
    unfold iV at hown ⊢
    rw [List.map_append]
    exact hown
  · rcases hat with e | ⟨z, e, hz⟩
    · exact h7 k (by rw [← e]; exact hk) hx
    · rw [e] at hk
      injection hk with hk
      have := h1.rs.lt k hx
      omega
/-- A new list beside a scene. -/
theorem Sc.put {v : Value} {lq : List Int} (h : Sc w0 g lo hi vb L vs l a w) (hq : Lst w' w.heap.size 3 1 v lq.length (iV lq)) (hf : Fr [] w w') (h8 : w0.heap.size ≤ hi) : Sx w0 g lo hi vb L vs l a v lq w' := by
  obtain ⟨F, h1, h2, h3, h4, h5⟩ := h
  exact ⟨F, h1.nil hf, h2, h3.fr hf (by simp), h4.fr hf (by simp), Nat.le_trans h5 hf.size, hq.mono h5, (fun k hk hx => by have := (hq.lt k hk).1; have := h1.rs.lt k hx; omega), h8⟩
theorem Sx.w0hi (h : Sx w0 g lo hi vb L vs l a vm lm w) : w0.heap.size ≤ hi := by
  obtain ⟨F, h1, h2, h3, h4, h5, h6, h7, h8⟩ := h
  exact h8
end
end Go.Proofs.YtdcppdgnekhcgaaGreatDoor
