/-
  TenureTwo: two pairs beside one another.
-/
import Derived.Test.YtkldeichodogdaaTenHist
namespace Go.Proofs.Ytkldeichodogdaa
open Go.RowKit Ten

/-- The program's past holds the last of the document's. -/
structure Hist (p : Nat → Int) (many : Int) (l : List Int) : Prop where
  n : many = ((min l.length 16 : Nat) : Int)
  pos : 1 ≤ l.length
  back : ∀ i, i < 16 → 16 ≤ l.length + i → l[l.length + i - 16]? = some (p i)

theorem Hist.first (most : Int) : Hist (past0 most) 1 [most] :=
  ⟨rfl, by simp, fun i hi h => by
    have : i = 15 := by simp at h; omega
    subst this
    simp [past0]⟩
theorem Hist.step {p : Nat → Int} {many : Int} {l : List Int} (h : Hist p many l) (x : Int) : Hist (Ten.shift p x) (min (many + 1) 16) (l ++ [x]) := by
  refine ⟨?_, by simp, fun i hi hl => ?_⟩
  · have := h.n
    simp only [List.length_append, List.length_cons, List.length_nil]
    omega
  · simp only [List.length_append, List.length_cons, List.length_nil] at hl ⊢
    unfold Ten.shift
    by_cases e : i = 15
    · subst e
      rw [show l.length + (0 + 1) + 15 - 16 = l.length from by omega]
      simp
    · rw [if_neg e, List.getElem?_append_left (by omega), show l.length + (0 + 1) + i - 16 = l.length + (i + 1) - 16 from by omega]
      exact h.back (i + 1) (by omega) (by omega)
theorem Hist.last {p : Nat → Int} {many : Int} {l : List Int} (h : Hist p many l) : l = l.dropLast ++ [p 15] := by
  have h1 := h.back 15 (by omega) (by have := h.pos; omega)
  have hp := h.pos
  have hne : l ≠ [] := by intro e; subst e; simp at hp
  rw [show l.length + 15 - 16 = l.length - 1 from by omega] at h1
  have h2 : l.getLast hne = p 15 := by
    rw [List.getLast_eq_getElem]
    exact (List.getElem?_eq_some_iff.1 h1).2
  rw [← h2]
  exact (List.dropLast_concat_getLast hne).symm
theorem Hist.same {p : Nat → Int} {many : Int} {l : List Int} (h : Hist p many l) : lastOf p many.toNat = lastL l := by
  have hn := h.n
  have hm : many.toNat = min l.length 16 := by omega
  rw [hm]
  refine List.ext_getElem? fun i => ?_
  unfold lastOf lastL
  rw [List.getElem?_drop]
  by_cases hlt : i < min l.length 16
  · rw [List.getElem?_map, List.getElem?_range hlt]
    have := h.back (16 - min l.length 16 + i) (by omega) (by omega)
    rw [show l.length + (16 - min l.length 16 + i) - 16 = l.length - 16 + i from by omega] at this
    rw [this]
    rfl
  · rw [List.getElem?_eq_none (by simp; omega), List.getElem?_eq_none (by omega)]

structure Two (w : World) (g h : Nat) (wanted : Int) (most : Nat) (g' h' : Nat) (wanted' : Int) (most' : Nat) (k : Nat) (wr : World)
    (p : Nat → Int) (many : Int) (b : Nat) (l : List Int) (p' : Nat → Int) (many' : Int) (b' : Nat) (l' : List Int) : Prop where
  P : Pair wr g h wanted most p many b l
  H : Hist p many l
  P' : Pair wr g' h' wanted' most' p' many' b' l'
  H' : Hist p' many' l'
  len : l.length ≤ k + 1
  len' : l'.length ≤ k + 1
  hg : w.heap.size ≤ g
  hh : w.heap.size ≤ h
  hb : w.heap.size ≤ b
  hg' : w.heap.size ≤ g'
  hh' : w.heap.size ≤ h'
  hb' : w.heap.size ≤ b'
  gg : g ≠ g'
  hh2 : h ≠ h'
  bb : b ≠ b'
  F : Fr [] w wr

def RelTwo (w : World) (g h : Nat) (wanted : Int) (most : Nat) (g' h' : Nat) (wanted' : Int) (most' : Nat) (k : Nat) (wr : World) : Prop :=
  ∃ p many b l p' many' b' l', Two w g h wanted most g' h' wanted' most' k wr p many b l p' many' b' l'

theorem Two.swap {w : World} {g h : Nat} {wanted : Int} {most : Nat} {g' h' : Nat} {wanted' : Int} {most' : Nat} {k : Nat} {wr : World}
    {p : Nat → Int} {many : Int} {b : Nat} {l : List Int} {p' : Nat → Int} {many' : Int} {b' : Nat} {l' : List Int} (T : Two w g h wanted most g' h' wanted' most' k wr p many b l p' many' b' l') :
    Two w g' h' wanted' most' g h wanted most k wr p' many' b' l' p many b l :=
  ⟨T.P', T.H', T.P, T.H, T.len', T.len, T.hg', T.hh', T.hb', T.hg, T.hh, T.hb, T.gg.symm, T.hh2.symm, T.bb.symm, T.F⟩

theorem RIs.bk {w : World} {g b : Nat} {wanted most : Int} {l : List Int} (h : RIs w g b wanted most l) : (∃ cs, Bk w g 51 cs) ∧ ∃ cs, Bk w b 3 cs := by
  obtain ⟨cap, hb, ho⟩ := h
  obtain ⟨cur, hc, _⟩ := own_lt ho
  exact ⟨⟨_, hb⟩, ⟨_, hc⟩⟩

/-- No block of the first pair is one of the second's. -/
theorem Two.apart {w : World} {g h : Nat} {wanted : Int} {most : Nat} {g' h' : Nat} {wanted' : Int} {most' : Nat} {k : Nat} {wr : World}
    {p : Nat → Int} {many : Int} {b : Nat} {l : List Int} {p' : Nat → Int} {many' : Int} {b' : Nat} {l' : List Int} (T : Two w g h wanted most g' h' wanted' most' k wr p many b l p' many' b' l') :
    (g' ∉ [g] ∧ h' ∉ [g] ∧ b' ∉ [g]) ∧ (g' ∉ [h, b] ∧ h' ∉ [h, b] ∧ b' ∉ [h, b]) := by
  obtain ⟨⟨_, h1⟩, ⟨_, h2⟩⟩ := T.P.R.bk
  obtain ⟨⟨_, h3⟩, ⟨_, h4⟩⟩ := T.P'.R.bk
  have a1 := T.P'.T.ne h1 (by decide)
  have a2 := T.P'.T.ne h2 (by decide)
  have a3 := h3.ne T.P.T (by decide)
  have a4 := h3.ne h2 (by decide)
  have a5 := h4.ne T.P.T (by decide)
  have a6 := h4.ne h1 (by decide)
  simp [a1, a2, a3, a4, a5, a6, T.gg.symm, T.hh2.symm, T.bb.symm]

theorem Two.quiet {w : World} {g h : Nat} {wanted : Int} {most : Nat} {g' h' : Nat} {wanted' : Int} {most' : Nat} {k : Nat} {wr w2 : World}
    {p : Nat → Int} {many : Int} {b : Nat} {l : List Int} {p' : Nat → Int} {many' : Int} {b' : Nat} {l' : List Int} (T : Two w g h wanted most g' h' wanted' most' k wr p many b l p' many' b' l')
    (hf : Fr [] wr w2) : Two w g h wanted most g' h' wanted' most' k w2 p many b l p' many' b' l' :=
  ⟨T.P.fr hf (by simp) (by simp) (by simp), T.H, T.P'.fr hf (by simp) (by simp) (by simp), T.H', T.len, T.len', T.hg, T.hh, T.hb, T.hg', T.hh', T.hb', T.gg, T.hh2, T.bb, T.F.trans hf (by simp)⟩

/-- The first pair has turned. -/
theorem Two.turned {w : World} {g h : Nat} {wanted : Int} {most : Nat} {g' h' : Nat} {wanted' : Int} {most' : Nat} {k : Nat} {wr w2 w3 : World}
    {p : Nat → Int} {many : Int} {b b2 : Nat} {l : List Int} {p' : Nat → Int} {many' : Int} {b' : Nat} {l' : List Int} {x : Int} (T : Two w g h wanted most g' h' wanted' most' k wr p many b l p' many' b' l')
    (hB : Bk w2 g 49 (tcells wanted most (Ten.shift p x) (min (many + 1) 16))) (hf : Fr [g] wr w2)
    (hR : RIs w3 h b2 wanted most (l ++ [x])) (hb : b2 = b ∨ w2.heap.size ≤ b2) (hf2 : Fr [h, b] w2 w3) :
    Two w g h wanted most g' h' wanted' most' (k + 1) w3 (Ten.shift p x) (min (many + 1) 16) b2 (l ++ [x]) p' many' b' l' := by
  obtain ⟨⟨a1, a2, a3⟩, a4, a5, a6⟩ := T.apart
  have hs := hf.size
  have hs2 := T.F.size
  have hbl := T.P'.R.lt.2
  have hne : g ∉ [h, b] := by have := T.P.ne; simp [this]
  have n0 := T.P.n0
  refine ⟨⟨hB.fr hf2 hne, hR, T.P.w0, T.P.w1, T.P.m0, T.P.m1, by omega, by omega⟩, T.H.step x, (T.P'.fr hf a1 a2 a3).fr hf2 a4 a5 a6, T.H', by have := T.len; simp; omega, by have := T.len'; omega,
    T.hg, T.hh, by have := T.hb; omega, T.hg', T.hh', T.hb', T.gg, T.hh2, ?_, (T.F.trans hf (by have := T.hg; simp; omega)).trans hf2 (by have := T.hh; have := T.hb; simp; omega)⟩
  have := T.bb
  omega
theorem Two.more {w : World} {g h : Nat} {wanted : Int} {most : Nat} {g' h' : Nat} {wanted' : Int} {most' : Nat} {k : Nat} {wr : World}
    {p : Nat → Int} {many : Int} {b : Nat} {l : List Int} {p' : Nat → Int} {many' : Int} {b' : Nat} {l' : List Int} (T : Two w g h wanted most g' h' wanted' most' k wr p many b l p' many' b' l') :
    Two w g h wanted most g' h' wanted' most' (k + 1) wr p many b l p' many' b' l' :=
  ⟨T.P, T.H, T.P', T.H', by have := T.len; omega, by have := T.len'; omega, T.hg, T.hh, T.hb, T.hg', T.hh', T.hb', T.gg, T.hh2, T.bb, T.F⟩
end Go.Proofs.Ytkldeichodogdaa
