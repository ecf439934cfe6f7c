/-
  Roots: what RootsFrames and RootsHandles lean on: a scene of roots with lists that were handed out; frames laid on one another (plain).
-/
import Derived.Test.YtdcppdgnekhcgaaGreatDoorRtS13
import Derived.Test.YtdcppdgnekhcgaaGreatDoorRtS15
import Derived.Test.YtdcppdgnekhcgaaGreatDoorRtS16
namespace Go.Proofs.YtdcppdgnekhcgaaGreatDoor
open Go.RowKit
set_option maxRecDepth 100000
set_option linter.unusedVariables false

theorem NL.widen {lo hi lo' hi' : Nat} {w : World} {v : Value} {l : List Int} (h : NL lo hi w v l) (h1 : lo' ≤ lo) (h2 : hi ≤ hi') : NL lo' hi' w v l := ⟨h.1.mono h1, fun k hk => Nat.lt_of_lt_of_le (h.2 k hk) h2⟩
theorem LL.widen {lo hi lo' hi' : Nat} {w : World} {v : Value} {L : List (List Int)} (h : LL lo hi w v L) (h1 : lo' ≤ lo) (h2 : hi ≤ hi') : LL lo' hi' w v L := by
  obtain ⟨vs, a, b, c, d⟩ := h
  refine ⟨vs, a.mono h1, b, fun i l hl => ?_, fun k hk => Nat.lt_of_lt_of_le (d k hk) h2⟩
  obtain ⟨u, e1, e2⟩ := c i l hl
  exact ⟨u, e1, e2.widen h1 h2⟩

/-- Roots, and two things that were handed out, in [lo, hi). -/
def Sc (w0 : World) (g lo hi : Nat) (vb : Value) (L : List (List Int)) (vs : Value) (l : List Int) (a : RA) (w : World) : Prop :=
  ∃ F, Sn w0 g a F w ∧ (∀ x ∈ F, x < lo ∨ hi ≤ x) ∧ LL lo hi w vb L ∧ NL lo hi w vs l ∧ hi ≤ w.heap.size
section
variable {w0 w w' : World} {g lo hi : Nat} {vb vs : Value} {L : List (List Int)} {l : List Int} {a a' : RA}
theorem Sc.nil (h : Sc w0 g lo hi vb L vs l a w) (hf : Fr [] w w') : Sc w0 g lo hi vb L vs l a w' := by
  obtain ⟨F, h1, h2, h3, h4, h5⟩ := h
  exact ⟨F, h1.nil hf, h2, h3.fr hf (by simp), h4.fr hf (by simp), Nat.le_trans h5 hf.size⟩
theorem Sc.frm (h : Sc w0 g lo hi vb L vs l a w) : Fr [] w0 w := h.choose_spec.1.fr
theorem Sc.call {f : Nat} {args : Array Value} {r : Value} (h : Sc w0 g lo hi vb L vs l a w) (hc : ∀ F, RS w0.heap.size w g a F → w0.heap.size ≤ w.heap.size → Calls Tryz.prog f args w (RO w0.heap.size g a' F r w)) :
    Calls Tryz.prog f args w fun e w' => e = .returned r ∧ Sc w0 g lo hi vb L vs l a' w' := by
  obtain ⟨F, h1, h2, h3, h4, h5⟩ := h
  refine (hc F h1.rs h1.fr.size).mono ?_
  intro e w' hro
  obtain ⟨he, F', k1, k2, k3⟩ := h1.to hro
  exact ⟨he, F', k1, fun x hx => by rcases k3 x hx with e | e; exact h2 x e; exact .inr (by omega), h3.fr k2 h2, h4.fr k2 h2, Nat.le_trans h5 k2.size⟩
theorem Sc.ask {f : Nat} {args : Array Value} {Q : Ending → World → Prop} (h : Sc w0 g lo hi vb L vs l a w) (hc : ∀ F, RS w0.heap.size w g a F → Calls Tryz.prog f args w Q) : Calls Tryz.prog f args w Q := by
  obtain ⟨F, h1, h2, h3, h4, h5⟩ := h
  exact hc F h1.rs
theorem Sc.lists (h : Sc w0 g lo hi vb L vs l a w) : LL lo hi w vb L ∧ NL lo hi w vs l := by
  obtain ⟨F, h1, h2, h3, h4, h5⟩ := h
  exact ⟨h3, h4⟩
end

/-! ### Plain -/
theorem thA_set {a : RA} {t : Nat} (ht : t < a.ths.length) (X : List (List Int)) : thA { a with ths := a.ths.set t X } (t : Int) = X := by
  unfold thA
  simp [List.getD, ht]
theorem inT_set {a : RA} {t : Nat} (X : List (List Int)) (i : Int) : inT { a with ths := a.ths.set t X } i = inT a i := by
  unfold inT
  simp
theorem inT_of {a : RA} {t : Nat} (ht : t < a.ths.length) : inT a (t : Int) = true := by
  unfold inT
  simp
  omega
theorem getA_last {a : RA} {t k : Nat} {C : List (List Int)} {T : List Int} {x : Int} (ht : t < a.ths.length) (h : thA a (t : Int) = C ++ [T]) (hk : T[k]? = some x) : getA a (t : Int) (k : Int) = (x, 0) := by
  refine getA_top (inT_of ht) (by rw [h]; simp) ?_
  unfold topOf
  rw [if_pos (inT_of ht), h]
  simpa using hk
theorem setA_last {a : RA} {t k : Nat} {C : List (List Int)} {T : List Int} (x : Int) (ht : t < a.ths.length) (h : thA a (t : Int) = C ++ [T]) (hk : k < T.length) : setA a (t : Int) (k : Int) x = ({ a with ths := a.ths.set t (C ++ [T.set k (max x 0)]) }, 0) := by
  have e : topE a (t : Int) (k : Int) = 0 := by
    unfold topE
    rw [if_neg (by rw [inT_of ht]; simp), if_neg (by rw [h]; simp), h, if_neg (by simp; omega)]
  unfold setA
  rw [if_pos e, h]
  simp
theorem popA_last {a : RA} {t : Nat} {C : List (List Int)} {T : List Int} (ht : t < a.ths.length) (h : thA a (t : Int) = C ++ [T]) : popA a (t : Int) = ({ a with ths := a.ths.set t C }, 0) := by
  unfold popA
  rw [if_neg (by rw [inT_of ht]; simp), if_neg (by rw [h]; simp), h]
  simp
theorem set_back {a : RA} {t : Nat} (ht : t < a.ths.length) (X : List (List Int)) : (a.ths.set t X).set t (thA a (t : Int)) = a.ths := by
  rw [List.set_set]
  unfold thA
  rw [Int.toNat_natCast, List.getD, List.getElem?_eq_getElem ht]
  simp
theorem topsA_ths {a b : RA} (h : a.ths = b.ths) : topsA a = topsA b := by
  unfold topsA topOf inT thA
  rw [h]
theorem framesA_ths {a b : RA} (h : a.ths = b.ths) (t : Int) : framesA a t = framesA b t := by
  unfold framesA inT thA
  rw [h]
theorem push_keep (a : RA) (t n : Int) : (pushA a t n).1.ths.length = a.ths.length ∧ (pushA a t n).1.S = a.S ∧ (pushA a t n).1.hs.length = a.hs.length := by
  unfold pushA
  split
  · exact ⟨rfl, rfl, rfl⟩
  split
  · exact ⟨rfl, rfl, rfl⟩
  split
  · exact ⟨rfl, rfl, rfl⟩
  · exact ⟨by simp, rfl, rfl⟩
theorem pop_keep (a : RA) (t : Int) : (popA a t).1.ths.length = a.ths.length ∧ (popA a t).1.S = a.S ∧ (popA a t).1.hs.length = a.hs.length := by
  unfold popA
  split
  · exact ⟨rfl, rfl, rfl⟩
  split
  · exact ⟨rfl, rfl, rfl⟩
  · exact ⟨by simp, rfl, rfl⟩
theorem set_keep (a : RA) (t n x : Int) : (setA a t n x).1.ths.length = a.ths.length ∧ (setA a t n x).1.S = a.S ∧ (setA a t n x).1.hs.length = a.hs.length := by
  unfold setA
  split
  · exact ⟨by simp, rfl, rfl⟩
  · exact ⟨rfl, rfl, rfl⟩
theorem open_keep (a : RA) (x : Int) : (openA a x).1.ths = a.ths ∧ (openA a x).1.S = a.S ∧ (openA a x).1.hs.length = a.hs.length := by
  unfold openA
  split
  · exact ⟨rfl, rfl, rfl⟩
  · exact ⟨rfl, rfl, by simp⟩
theorem close_keep (a : RA) (x : Int) : (closeA a x).1.ths = a.ths ∧ (closeA a x).1.S = a.S ∧ (closeA a x).1.hs.length = a.hs.length := by
  unfold closeA
  split
  · exact ⟨rfl, rfl, by simp⟩
  · exact ⟨rfl, rfl, rfl⟩
theorem deq_keep (a : RA) : (deqA a).1.ths = a.ths ∧ (deqA a).1.S = a.S ∧ (deqA a).1.hs = a.hs := by
  unfold deqA
  split <;> exact ⟨rfl, rfl, rfl⟩
theorem playA_keep (a : RA) (o : Oq) : (playA a o).ths.length = a.ths.length ∧ (playA a o).S = a.S ∧ (playA a o).hs.length = a.hs.length := by
  unfold playA
  split
  · exact push_keep _ _ _
  split
  · exact pop_keep _ _
  split
  · exact set_keep _ _ _ _
  split
  · have := open_keep a o.a; exact ⟨by rw [this.1], this.2.1, this.2.2⟩
  split
  · have := close_keep a o.n; exact ⟨by rw [this.1], this.2.1, this.2.2⟩
  split
  · exact ⟨rfl, rfl, rfl⟩
  split
  · have := deq_keep a; exact ⟨by rw [this.1], this.2.1, by rw [this.2.2]⟩
  · exact ⟨rfl, rfl, rfl⟩
theorem playL_keep (l : List Oq) (a : RA) : (playL a l).ths.length = a.ths.length ∧ (playL a l).S = a.S ∧ (playL a l).hs.length = a.hs.length := by
  induction l generalizing a with
  | nil => exact ⟨rfl, rfl, rfl⟩
  | cons o l ih =>
    have h1 := ih (playA a o)
    have h2 := playA_keep a o
    exact ⟨h1.1.trans h2.1, h1.2.1.trans h2.2.1, h1.2.2.trans h2.2.2⟩
/-- The values laid into the first k slots of n. -/
def mixL (vals : List Int) (n k : Nat) : List Int := (vals.take k).map (fun x => max x 0) ++ List.replicate (n - k) 0
theorem mixL_zero (vals : List Int) (n : Nat) : mixL vals n 0 = List.replicate n 0 := by simp [mixL]
theorem mixL_len {vals : List Int} {n k : Nat} (h : k ≤ n) (h2 : k ≤ vals.length) : (mixL vals n k).length = n := by
  unfold mixL
  simp
  omega
theorem mixL_set {vals : List Int} {n k : Nat} {x : Int} (h : k < n) (hx : vals[k]? = some x) : (mixL vals n k).set k (max x 0) = mixL vals n (k + 1) := by
  obtain ⟨h1, h2⟩ := List.getElem?_eq_some_iff.1 hx
  unfold mixL
  rw [List.take_succ_eq_append_getElem h1, h2, List.map_append]
  obtain ⟨m, hm⟩ : ∃ m, n - k = m + 1 := ⟨n - k - 1, by omega⟩
  have hm2 : n - (k + 1) = m := by omega
  rw [hm, hm2, List.replicate_succ]
  have hl : ((vals.take k).map (fun x => max x 0)).length = k := by simp; omega
  have := set_mid ((vals.take k).map (fun x => max x 0)) 0 (max x 0) (List.replicate m 0)
  rw [hl] at this
  rw [this]
  simp
theorem mixL_at {vals : List Int} {n k i : Nat} {x : Int} (h : k ≤ n) (hi : i < k) (hx : vals[i]? = some x) : (mixL vals n k)[i]? = some (max x 0) := by
  unfold mixL
  have h1 := (List.getElem?_eq_some_iff.1 hx).1
  rw [List.getElem?_append_left (by simp; omega), List.getElem?_map, List.getElem?_take, if_pos hi, hx]
  rfl
end Go.Proofs.YtdcppdgnekhcgaaGreatDoor
