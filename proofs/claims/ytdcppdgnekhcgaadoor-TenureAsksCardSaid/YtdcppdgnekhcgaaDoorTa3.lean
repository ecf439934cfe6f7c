/-
  Tenure: what TenureAsks keeps from round to round.
-/
import Derived.Test.YtdcppdgnekhcgaaDoorTa2
namespace Go.Proofs.YtdcppdgnekhcgaaDoor
open Go.RowKit Ten
set_option linter.unusedVariables false

structure Ask (w0 : World) (gb g h : Nat) (wanted : Int) (most k K : Nat) (S : BS) (XW : List (Value × List Int)) (p : Nat → Int) (many : Int) (b : Nat) (l : List Int) (Us : List (Th w0.heap.size)) (wr : World) : Prop where
  eg : S.g = gb
  ed : S.deep = 0
  bl : BLk S [] XW [] K 16
  sg : Sg w0 (bkT w0.heap.size S ++ (thTn7 w0.heap.size g h b wanted most p many l :: Us)) wr
  H : Hist p many l
  len : l.length ≤ k + 1
  a0 : 0 ≤ wanted
  a1 : wanted ≤ 65536
  m0 : 1 ≤ most
  m1 : most ≤ 15
  p0 : 1 ≤ p 15
  p1 : p 15 ≤ 15

section
variable {w0 : World} {gb g h : Nat} {wanted : Int} {most k K : Nat} {S : BS} {XW : List (Value × List Int)} {p : Nat → Int} {many : Int} {b : Nat} {l : List Int} {Us : List (Th w0.heap.size)} {wr w2 w3 : World}
theorem Ask.P (A : Ask w0 gb g h wanted most k K S XW p many b l Us wr) : Pair wr g h wanted most p many b l := by
  have h1 := (A.sg.ok 11 (thTn7 w0.heap.size g h b wanted most p many l) rfl).1
  have n := A.H.n
  have ps := A.H.pos
  exact ⟨h1.1, h1.2, A.a0, A.a1, A.m0, A.m1, by omega, by omega⟩
theorem Ask.quiet (A : Ask w0 gb g h wanted most k K S XW p many b l Us wr) (hf : Fr [] wr w2) : Ask w0 gb g h wanted most k K S XW p many b l Us w2 :=
  ⟨A.eg, A.ed, A.bl, A.sg.nil hf, A.H, A.len, A.a0, A.a1, A.m0, A.m1, A.p0, A.p1⟩
theorem Ask.more (A : Ask w0 gb g h wanted most k K S XW p many b l Us wr) : Ask w0 gb g h wanted most (k + 1) K S XW p many b l Us wr :=
  ⟨A.eg, A.ed, A.bl, A.sg, A.H, by have := A.len; omega, A.a0, A.a1, A.m0, A.m1, A.p0, A.p1⟩
theorem Ask.turned {b2 : Nat} {x : Int} (A : Ask w0 gb g h wanted most k K S XW p many b l [] wr)
    (hB : Bk w2 g 63 (tcells wanted most (Ten.shift p x) (min (many + 1) 16))) (hf : Fr [g] wr w2)
    (hR : RIs w3 h b2 wanted most (l ++ [x])) (hb : b2 = b ∨ w2.heap.size ≤ b2) (hf2 : Fr [h, b] w2 w3) (x0 : 1 ≤ x) (x1 : x ≤ most) :
    Ask w0 gb g h wanted most (k + 1) K S XW (Ten.shift p x) (min (many + 1) 16) b2 (l ++ [x]) [] w3 := by
  have hs := hf.size
  have hs2 := A.sg.fr.size
  have hs3 := hf2.size
  obtain ⟨⟨hT, hRR⟩, q1, q2, q3⟩ := A.sg.ok 11 (thTn7 w0.heap.size g h b wanted most p many l) rfl
  have hne : g ∉ [h, b] := by have := A.P.ne; simp [this]
  have hfr : Fr (thTn7 w0.heap.size g h b wanted most p many l).F wr w3 := (hf.mono (by simp [thTn7])).trans hf2 (by intro x hx; left; simp [thTn7] at hx ⊢; omega)
  have hset := A.sg.set (i := 11) (t' := thTn7 w0.heap.size g h b2 wanted most (Ten.shift p x) (min (many + 1) 16) (l ++ [x])) rfl hfr
    ⟨⟨hB.fr hf2 hne, hR⟩, q1, q2, by omega⟩ (fun y hy => by
      have hy : y = g ∨ y = h ∨ y = b2 := by simpa [thTn7] using hy
      simp only [thTn7, List.mem_cons, List.not_mem_nil, or_false]
      omega)
  have hsh : Ten.shift p x 15 = x := by simp [Ten.shift]
  exact ⟨A.eg, A.ed, A.bl, hset, A.H.step x, by have := A.len; simp; omega, A.a0, A.a1, A.m0, A.m1, by rw [hsh]; omega, by have := A.m1; rw [hsh]; omega⟩
theorem lastL_len (l : List Int) : (lastL l).length ≤ 16 := by unfold lastL; rw [List.length_drop]; omega
theorem history_last (A : Ask w0 gb g h wanted most k K S XW p many b l [] wr) :
    Calls Tryd.prog 9 #[.pointer (some ⟨g, 0, none⟩)] wr fun e w' => ∃ b2 c, e = .returned (.slice (some ⟨b2, 0, none⟩) (lastL l).length c) ∧ RdI w' (some ⟨b2, 0, none⟩) (lastL l) ∧
      Ask w0 gb g h wanted most k K S XW p many b l [thLst w0.heap.size 3 (.slice (some ⟨b2, 0, none⟩) (lastL l).length c) (bV (lastL l))] w' := by
  obtain ⟨mn, rfl⟩ : ∃ mn : Nat, many = mn := ⟨many.toNat, by have := A.P.n0; omega⟩
  have hs : lastOf p mn = lastL l := A.H.same
  have hl : mn = (lastL l).length := by rw [← hs, lastOf_length]
  refine (history_own g wanted most p mn wr A.P.T (by have := A.P.n0; omega) (by have := A.P.n1; omega)).mono ?_
  rintro e w' ⟨b2, c, rfl, hown, hf⟩
  rw [hs] at hown
  have hz := A.sg.fr.size
  obtain ⟨_, hR⟩ := RdI.own (l := lastL l) hown
  have hlst : Lst w' w0.heap.size 3 1 (.slice (some ⟨b2, 0, none⟩) mn c) mn (bV (lastL l)) := (Lst.of_own hown).mono hz
  have hlt := hown.lt b2 rfl
  have hpush := A.sg.push (t := thLst w0.heap.size 3 (.slice (some ⟨b2, 0, none⟩) mn c) (bV (lastL l))) hf (by
    show Lst w' w0.heap.size 3 1 _ (bV (lastL l)).length _
    rw [bV_len, ← hl]
    exact hlst) (fun x hx => by
      have hx : x = b2 := by simpa [thLst, Value.ownBlock] using hx
      subst hx
      exact hlt.1)
  refine ⟨b2, c, by rw [hl], hR, ⟨A.eg, A.ed, A.bl, ?_, A.H, A.len, A.a0, A.a1, A.m0, A.m1, A.p0, A.p1⟩⟩
  rw [← hl]
  exact hpush
theorem ask_ints {A0 : Option Addr} {c : Nat} (z : Int) (A : Ask w0 gb g h wanted most k K S XW p many b l [thLst w0.heap.size 3 (.slice A0 (lastL l).length c) (bV (lastL l))] wr) (hK : K ≤ 1000000000000) :
    Calls Tryd.prog 12 #[.pointer (some ⟨gb, 0, none⟩), .slice A0 (lastL l).length c, .int .i64 z] wr fun e w' => e = .returned (.tuple #[]) ∧ ∃ S' XW', Ask w0 gb g h wanted most k (K + 2) S' XW' p many b l [] w' := by
  have hg := A.eg
  subst hg
  refine (Ints_any (j := 1) z A.sg A.bl A.ed rfl rfl (lastL_len l) hK (by omega)).mono ?_
  rintro e w' ⟨rfl, S', XW', e1, e2, e3, e4⟩
  refine ⟨rfl, S', XW', ⟨e1, e2, e3, ?_, A.H, A.len, A.a0, A.a1, A.m0, A.m1, A.p0, A.p1⟩⟩
  exact Sg.left (Ts := bkT w0.heap.size S' ++ [thTn7 w0.heap.size g h b wanted most p many l]) (Us := [thNil w0.heap.size]) e4
theorem ask_hold (A : Ask w0 gb g h wanted most k K S XW p many b l Us wr) :
    Calls Tryd.prog 13 #[.pointer (some ⟨gb, 0, none⟩)] wr fun e w' => e = .returned (.bool true) ∧ Fr [] wr w' := by
  have hg := A.eg
  subst hg
  exact Hold_any w0.heap.size S wr (BLk.hold A.sg A.bl)
theorem old_at {w : World} (age : Int) {o : Bool} (P : Pair w g h wanted most p many b l) (ho : decide (p 15 ≤ age) = o) :
    Calls Tryd.prog 6 #[.pointer (some ⟨g, 0, none⟩), .int .i64 age] w fun e w' => e = .returned (.bool o) ∧ w = w' := by
  subst ho
  exact old_any g wanted most p many age w P.T
theorem rold_at {w : World} (age : Int) {o : Bool} (P : Pair w g h wanted most p many b l) (H : Hist p many l) (ho : decide (p 15 ≤ age) = o) :
    Calls Tryd.prog 8 #[.pointer (some ⟨h, 0, none⟩), .int .i64 age] w fun e w' => e = .returned (.bool o) ∧ Fr [] w w' := by
  subst ho
  exact rold_any age P.R H
end
end Go.Proofs.YtdcppdgnekhcgaaDoor
