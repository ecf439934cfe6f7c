/-
  Roots: what the top frames hold; lists of lists that are one.
-/
import Derived.Test.YtdcppdgnekhcgaaGreatDoorRtS12
namespace Go.Proofs.YtdcppdgnekhcgaaGreatDoor
open Go.RowKit
set_option maxRecDepth 100000
set_option linter.unusedVariables false

/-- A list of numbers that lies in [lo, hi). -/
def NL (lo hi : Nat) (w : World) (v : Value) (l : List Int) : Prop := Lst w lo 3 1 v l.length (iV l) ∧ ∀ k, v.ownBlock = some k → k < hi
theorem NL.fr {lo hi : Nat} {w w' : World} {v : Value} {l : List Int} {S : List Nat} (h : NL lo hi w v l) (hf : Fr S w w') (hS : ∀ x ∈ S, x < lo ∨ hi ≤ x) : NL lo hi w' v l :=
  ⟨h.1.fr hf (fun k hk hx => by have := (h.1.lt k hk).1; have := h.2 k hk; rcases hS k hx with e | e <;> omega), h.2⟩
theorem NL.rd {lo hi : Nat} {w : World} {A : Option Addr} {n c : Nat} {l : List Int} (h : NL lo hi w (.slice A n c) l) : n = l.length ∧ RdI w A l := by
  obtain ⟨A', cp', hv, h1, h2⟩ := h.1.look
  injection hv with _ hv2 hv3
  subst hv2
  refine ⟨rfl, by unfold maxLen at h2; omega, fun h0 => ?_⟩
  obtain ⟨g, off, cap, hv, _, hg, _, _, _, _, hc⟩ := h.1.form (by omega)
  injection hv with hv1 _ _
  exact ⟨g, off, hv1, hg, fun i x hx => hc i _ (iV_at hx)⟩
theorem NL.look {lo hi : Nat} {w : World} {v : Value} {l : List Int} (h : NL lo hi w v l) : ∃ A c, v = .slice A l.length c ∧ l.length ≤ c ∧ c ≤ maxLen := by
  obtain ⟨A, c, h1, h2, h3⟩ := h.1.look
  exact ⟨A, c, h1, h2, h3⟩
theorem NewL.nl {l : List Int} {w w' : World} {e : Ending} (h : NewL l w e w') : ∃ v, e = .returned v ∧ NL w.heap.size w'.heap.size w' v l ∧ Fr [] w w' := by
  obtain ⟨v, h1, h2, h3⟩ := h
  exact ⟨v, h1, ⟨h2, fun k hk => (h2.lt k hk).2⟩, h3⟩
/-- A list of such lists. -/
def LL (lo hi : Nat) (w : World) (v : Value) (L : List (List Int)) : Prop :=
  ∃ vs : List Value, Lst w lo 29 1 v L.length vs ∧ vs.length = L.length ∧ (∀ (i : Nat) (l : List Int), L[i]? = some l → ∃ u, vs[i]? = some u ∧ NL lo hi w u l) ∧ ∀ k, v.ownBlock = some k → k < hi
theorem LL.fr {lo hi : Nat} {w w' : World} {v : Value} {L : List (List Int)} {S : List Nat} (h : LL lo hi w v L) (hf : Fr S w w') (hS : ∀ x ∈ S, x < lo ∨ hi ≤ x) : LL lo hi w' v L := by
  obtain ⟨vs, h1, h2, h3, h4⟩ := h
  refine ⟨vs, h1.fr hf (fun k hk hx => by have := (h1.lt k hk).1; have := h4 k hk; rcases hS k hx with e | e <;> omega), h2, fun i l hl => ?_, h4⟩
  obtain ⟨u, k1, k2⟩ := h3 i l hl
  exact ⟨u, k1, k2.fr hf hS⟩
theorem LL.at {lo hi : Nat} {w : World} {A : Option Addr} {n c : Nat} {L : List (List Int)} (h : LL lo hi w (.slice A n c) L) {i : Nat} {l : List Int} (hl : L[i]? = some l) : ∃ b o B d, A = some ⟨b, o, none⟩ ∧ w.cell? ⟨b, o + i, none⟩ = some (.slice B l.length d) ∧ RdI w B l := by
  obtain ⟨vs, h1, h2, h3, h4⟩ := h
  have hi : i < L.length := (List.getElem?_eq_some_iff.1 hl).1
  obtain ⟨u, k1, k2⟩ := h3 i l hl
  obtain ⟨b, o, cap, hv, _, _, _, _, _, _, hc⟩ := h1.form (by omega)
  injection hv with hv1 _ _
  obtain ⟨B, d, rfl, _, _⟩ := k2.look
  exact ⟨b, o, B, d, hv1, hc i _ k1, (k2.rd).2⟩
theorem LL.look {lo hi : Nat} {w : World} {v : Value} {L : List (List Int)} (h : LL lo hi w v L) : ∃ A c, v = .slice A L.length c ∧ L.length ≤ c ∧ c ≤ maxLen := by
  obtain ⟨vs, h1, _⟩ := h
  exact h1.look

/-- What the top frames hold. -/
def topOf (a : RA) (t : Nat) : List Int := if inT a (t : Int) = true then (thA a (t : Int)).getLastD [] else []
def topsA (a : RA) : List (List Int) := (List.range 8).map (topOf a)
theorem framesA_last {a : RA} {t : Nat} (h : framesA a (t : Int) ≠ []) : inT a (t : Int) = true ∧ thA a (t : Int) ≠ [] ∧ (framesA a (t : Int)).getLastD 0 = ((topOf a t).length : Int) := by
  unfold framesA at h ⊢
  cases hi : inT a (t : Int) with
  | false => rw [if_pos hi] at h; exact absurd rfl h
  | true =>
    rw [if_neg (by simp [hi])] at h ⊢
    have h0 : thA a (t : Int) ≠ [] := fun e => h (by rw [e]; rfl)
    refine ⟨rfl, h0, ?_⟩
    obtain ⟨C, x, e⟩ := last_split h0
    unfold topOf
    rw [if_pos hi, e]
    simp
theorem framesA_nil {a : RA} {t : Nat} (h : framesA a (t : Int) = []) : topOf a t = [] := by
  unfold framesA at h
  unfold topOf
  cases hi : inT a (t : Int) with
  | false => rw [if_neg (by simp)]
  | true =>
    rw [if_neg (by simp [hi])] at h
    have h0 : thA a (t : Int) = [] := List.map_eq_nil_iff.1 h
    rw [if_pos rfl, h0]
    rfl
theorem getA_top {a : RA} {t k : Nat} {x : Int} (hi : inT a (t : Int) = true) (h0 : thA a (t : Int) ≠ []) (hk : (topOf a t)[k]? = some x) : getA a (t : Int) (k : Int) = (x, 0) := by
  have hlt := (List.getElem?_eq_some_iff.1 hk).1
  unfold topOf at hk hlt
  rw [if_pos hi] at hk hlt
  have e : topE a (t : Int) (k : Int) = 0 := by
    unfold topE
    rw [if_neg (by simp [hi]), if_neg h0, if_neg (by omega)]
  unfold getA
  rw [if_pos e, Int.toNat_natCast, List.getD, hk]
  rfl
end Go.Proofs.YtdcppdgnekhcgaaGreatDoor
