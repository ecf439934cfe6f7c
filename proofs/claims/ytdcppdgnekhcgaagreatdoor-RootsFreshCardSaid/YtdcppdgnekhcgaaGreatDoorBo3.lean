/-
  The Book of middenkept: sameInts, due, holdInts, Hold.
-/
import Derived.Test.YtdcppdgnekhcgaaGreatDoorBo2
namespace Go.Proofs.YtdcppdgnekhcgaaGreatDoor
open Go.RowKit
set_option linter.unusedVariables false

theorem bqleft {P : Program} {f : FuncId} {args : Array Value} {w : World} {n : Nat} {v : Value}
    (h : Calls P f args (w.drewN n) fun e w' => e = .returned v ∧ w.drewN n = w') : Calls P f args (w.drewN n) fun e w'' => e = .returned v ∧ ∃ m, w'' = w.drewN m :=
  h.mono fun _ _ ⟨he, hm⟩ => ⟨he, n, hm.symm⟩
theorem keptSame_any (v v' : Value) (l : List Int) (w : World) (h : RdV w v l) (h' : RdV w v' l) :
    Calls Tryz.prog 76 #[v, v'] w fun e w' => e = .returned (.bool true) ∧ w = w' := by
  obtain ⟨A, c, rfl, h⟩ := h
  obtain ⟨B, d, rfl, h'⟩ := h'
  obtain ⟨n, hn⟩ : ∃ n, l.length = n := ⟨_, rfl⟩
  have hlen := h.1
  rw [hn] at hlen ⊢
  have H := Lib.hid h
  have H' := Lib.hid h'
  have HN := Lib.hid hn
  clear h h' hn
  go_enter Tryz.func76, Tryz.ntmps76
  go_wp2_with fail
  go_loopw [5] (fun i wr => ∃ k : Nat, k ≤ n ∧ i = .int .i64 k ∧ w = wr) (fun i _ => n - (intOf i).toNat)
  case atStart => exact ⟨0, by omega, rfl, rfl⟩
  case round =>
    obtain ⟨k, hk, rfl, rfl⟩ := hrel
    by_cases hlt : k < n
    · obtain ⟨b, o, rfl, hb, hc⟩ := H.out.2 (by have := HN.out; omega)
      obtain ⟨b', o', rfl, hb', hc'⟩ := H'.out.2 (by have := HN.out; omega)
      obtain ⟨x, hx⟩ : ∃ x, l[k]? = some x := ⟨_, List.getElem?_eq_getElem (by have := HN.out; omega)⟩
      have c1 := hc k x hx
      have c2 := hc' k x hx
      clear hc hc' hx
      have e1 : (k : Int) < (n : Int) := by omega
      have e2 : (0 : Int) ≤ (k : Int) := by omega
      have e3 : decide ((k : Int) < (n : Int)) = true := decide_eq_true e1
      have e4 : (x != x) = false := by simp
      go_wp2_with fail
      go_roundw
      case rel => exact ⟨k + 1, by omega, by go_num, by first | rfl | trivial⟩
      case measure => simp [intOf]; omega
    · have e3 : decide ((k : Int) < (n : Int)) = false := decide_eq_false (by omega)
      go_wp2_with fail
      go_ret
      exact ⟨rfl, rfl⟩
set_option maxRecDepth 100000 in
theorem due_any (S : BS) (w : World) (n : Int) (h : Bk w S.g 43 (bookA S)) : Calls Tryz.prog 57 #[.pointer (some ⟨S.g, 0, none⟩), .int .i64 n] w fun e w' => ∃ d, e = .returned (.int .i64 d) ∧ w = w' := by
  have c0 : w.cell? ⟨S.g, 0, none⟩ = some (.bool false) := h.cell 0
  have c2 : w.cell? ⟨S.g, 2, none⟩ = some (.int .i64 S.turn) := h.cell 2
  clear h
  go_enter Tryz.func57, Tryz.ntmps57
  go_wp2_with fail
  all_goals
    go_ret
    exact ⟨_, rfl, rfl⟩
set_option maxRecDepth 100000 in
set_option maxHeartbeats 1600000 in
theorem holdInts_any (b0 : Nat) (S : BS) (w : World) (h : Bk w S.g 43 (bookA S)) (hO : Lst w b0 29 1 S.vO S.O.length S.O) (hT : Lst w b0 29 1 S.vT S.T.length S.T) (hW : Lst w b0 29 1 S.vW S.W.length S.W) (hN : Lst w b0 29 1 S.vN S.N.length S.N)
    (l1 : S.O.length = S.T.length) (l2 : S.W.length = S.N.length) (h1 : ∀ (i : Nat) p q, S.O[i]? = some p → S.T[i]? = some q → ∃ c, RdV w p c ∧ RdV w q c) (h2 : ∀ (i : Nat) p q, S.W[i]? = some p → S.N[i]? = some q → ∃ c, RdV w p c ∧ RdV w q c) :
    Calls Tryz.prog 32 #[.pointer (some ⟨S.g, 0, none⟩)] w fun e w' => e = .returned (.bool true) ∧ Fr [] w w' := by
  have H := Lib.hid h
  have HO := Lib.hid hO
  have HT := Lib.hid hT
  have HW := Lib.hid hW
  have HN := Lib.hid hN
  have HL : Hid (S.O.length = S.T.length ∧ S.W.length = S.N.length) := ⟨l1, l2⟩
  have H1 := Lib.hid h1
  have H2 := Lib.hid h2
  obtain ⟨n, hn⟩ : ∃ n, S.O.length = n := ⟨_, rfl⟩
  obtain ⟨m, hm⟩ : ∃ m, S.W.length = m := ⟨_, rfl⟩
  have HNM : Hid (S.O.length = n ∧ S.W.length = m) := ⟨hn, hm⟩
  rw [hn] at hO
  rw [← l1, hn] at hT
  rw [hm] at hW
  rw [← l2, hm] at hN
  obtain ⟨A1, p1, hv1, q1, r1⟩ := hO.look
  obtain ⟨A2, p2, hv2, q2, r2⟩ := hT.look
  obtain ⟨A3, p3, hv3, q3, r3⟩ := hW.look
  obtain ⟨A4, p4, hv4, q4, r4⟩ := hN.look
  have HCL : Hid (∀ Z, Fr [] w Z → Z.cell? ⟨S.g, 13, none⟩ = some (.slice A1 n p1) ∧ Z.cell? ⟨S.g, 14, none⟩ = some (.slice A2 n p2) ∧ Z.cell? ⟨S.g, 15, none⟩ = some (.slice A3 m p3) ∧ Z.cell? ⟨S.g, 16, none⟩ = some (.slice A4 m p4)) := fun Z hf => by
    have hb := H.out.fr hf (by simp)
    rw [← hv1, ← hv2, ← hv3, ← hv4]
    exact ⟨hb.cell 13, hb.cell 14, hb.cell 15, hb.cell 16⟩
  rw [hv1] at hO
  rw [hv2] at hT
  rw [hv3] at hW
  rw [hv4] at hN
  have LO := Lib.hid hO
  have LT := Lib.hid hT
  have LW := Lib.hid hW
  have LN := Lib.hid hN
  have hnn : n ≤ 9223372036854775807 := by unfold maxLen at r1; omega
  have hmm : m ≤ 9223372036854775807 := by unfold maxLen at r3; omega
  clear h hO hT hW hN l1 l2 h1 h2 hn hm hv1 hv2 hv3 hv4 q1 q2 q3 q4 r1 r2 r3 r4
  go_enter Tryz.func32, Tryz.ntmps32
  go_wp2_with fail
  go_loopw [3] (fun u wr => ∃ k : Nat, k ≤ n ∧ u = .int .i64 k ∧ Hid (Fr [] w wr)) (fun u _ => n - (intOf u).toNat)
  case atStart => exact ⟨0, by omega, rfl, Fr.refl _ _⟩
  case round =>
    obtain ⟨k, hk, rfl, HF⟩ := hrel
    obtain ⟨c1, c2, c3, c4⟩ := HCL.out wr HF.out
    by_cases hlt : k < n
    · obtain ⟨p, hp⟩ : ∃ p, S.O[k]? = some p := ⟨_, List.getElem?_eq_getElem (by have := HNM.out.1; omega)⟩
      obtain ⟨q, hq⟩ : ∃ q, S.T[k]? = some q := ⟨_, List.getElem?_eq_getElem (by have := HNM.out.1; have := HL.out.1; omega)⟩
      obtain ⟨c, hc1, hc2⟩ := H1.out k p q hp hq
      obtain ⟨b1, o1, d1, e1, _, _, _, _, _, _, g1⟩ := (LO.out.fr HF.out (by simp)).form (by omega)
      injection e1 with e1 _ e1'
      subst e1 e1'
      obtain ⟨b2, o2, d2, e2, _, _, _, _, _, _, g2⟩ := (LT.out.fr HF.out (by simp)).form (by omega)
      injection e2 with e2 _ e2'
      subst e2 e2'
      have x1 := g1 k p hp
      have x2 := g2 k q hq
      have HC : Hid (∀ j, Calls Tryz.prog 76 #[p, q] (wr.drewN j) fun e w' => e = .returned (.bool true) ∧ wr.drewN j = w') := fun j =>
        keptSame_any p q c _ ((hc1.fr HF.out (by simp)).fr ((Fr.refl [] wr).drewN j) (by simp)) ((hc2.fr HF.out (by simp)).fr ((Fr.refl [] wr).drewN j) (by simp))
      have i0 : (0 : Int) ≤ (k : Int) := by omega
      have i1 : (k : Int) < (n : Int) := by omega
      have i2 : decide ((k : Int) < (n : Int)) = true := decide_eq_true i1
      clear hp hq hc1 hc2 g1 g2
      go_upto_region 4 with fail
      go_quiet ((go_at_call 76; exact bqleft (HC.out _)))
      go_wp2_with fail
      go_roundw
      case rel => exact ⟨k + 1, by omega, by go_num, HF.out.drewN _⟩
      case measure => simp [intOf]; omega
    · obtain rfl : k = n := by omega
      have i2 : decide ((k : Int) < (k : Int)) = false := decide_eq_false (by omega)
      obtain ⟨w2, rfl⟩ : ∃ w2, w2 = wr := ⟨_, rfl⟩
      go_wp2_with fail
      go_loopw [4] (fun u wr => ∃ k : Nat, k ≤ m ∧ u = .int .i64 k ∧ Hid (Fr [] w wr)) (fun u _ => m - (intOf u).toNat)
      case atStart => exact ⟨0, by omega, rfl, HF.out⟩
      case round =>
        clear c1 c2 c3 c4
        obtain ⟨j, hj, rfl, HF2⟩ := hrel
        obtain ⟨c1, c2, c3, c4⟩ := HCL.out wr HF2.out
        by_cases hlt : j < m
        · obtain ⟨p, hp⟩ : ∃ p, S.W[j]? = some p := ⟨_, List.getElem?_eq_getElem (by have := HNM.out.2; omega)⟩
          obtain ⟨q, hq⟩ : ∃ q, S.N[j]? = some q := ⟨_, List.getElem?_eq_getElem (by have := HNM.out.2; have := HL.out.2; omega)⟩
          obtain ⟨c, hc1, hc2⟩ := H2.out j p q hp hq
          obtain ⟨b1, o1, d1, e1, _, _, _, _, _, _, g1⟩ := (LW.out.fr HF2.out (by simp)).form (by omega)
          injection e1 with e1 _ e1'
          subst e1 e1'
          obtain ⟨b2, o2, d2, e2, _, _, _, _, _, _, g2⟩ := (LN.out.fr HF2.out (by simp)).form (by omega)
          injection e2 with e2 _ e2'
          subst e2 e2'
          have x1 := g1 j p hp
          have x2 := g2 j q hq
          have HC : Hid (∀ j, Calls Tryz.prog 76 #[p, q] (wr.drewN j) fun e w' => e = .returned (.bool true) ∧ wr.drewN j = w') := fun j =>
            keptSame_any p q c _ ((hc1.fr HF2.out (by simp)).fr ((Fr.refl [] wr).drewN j) (by simp)) ((hc2.fr HF2.out (by simp)).fr ((Fr.refl [] wr).drewN j) (by simp))
          have i0 : (0 : Int) ≤ (j : Int) := by omega
          have i1 : (j : Int) < (m : Int) := by omega
          have i3 : decide ((j : Int) < (m : Int)) = true := decide_eq_true i1
          clear hp hq hc1 hc2 g1 g2
          go_upto_region 9 with fail
          go_quiet ((go_at_call 76; exact bqleft (HC.out _)))
          go_wp2_with fail
          go_roundw
          case rel => exact ⟨j + 1, by omega, by go_num, HF2.out.drewN _⟩
          case measure => simp [intOf]; omega
        · have i3 : decide ((j : Int) < (m : Int)) = false := decide_eq_false (by omega)
          go_wp2_with fail
          go_ret
          exact ⟨rfl, HF2.out⟩
/-- The facts that Hold asks. -/
structure BHold (b0 : Nat) (S : BS) (w : World) : Prop where
  B : Bk w S.g 43 (bookA S)
  O : Lst w b0 29 1 S.vO S.O.length S.O
  T : Lst w b0 29 1 S.vT S.T.length S.T
  W : Lst w b0 29 1 S.vW S.W.length S.W
  N : Lst w b0 29 1 S.vN S.N.length S.N
  l1 : S.O.length = S.T.length
  l2 : S.W.length = S.N.length
  h1 : ∀ (i : Nat) p q, S.O[i]? = some p → S.T[i]? = some q → ∃ c, RdV w p c ∧ RdV w q c
  h2 : ∀ (i : Nat) p q, S.W[i]? = some p → S.N[i]? = some q → ∃ c, RdV w p c ∧ RdV w q c
set_option maxRecDepth 100000 in
set_option maxHeartbeats 1600000 in
theorem Hold_any (b0 : Nat) (S : BS) (w : World) (h : BHold b0 S w) : Calls Tryz.prog 7 #[.pointer (some ⟨S.g, 0, none⟩)] w fun e w' => e = .returned (.bool true) ∧ Fr [] w w' := by
  have HI := Lib.hid (holdInts_any b0 S w h.B h.O h.T h.W h.N h.l1 h.l2 h.h1 h.h2)
  have HB : Hid (∀ Z, Fr [] w Z → Bk Z S.g 43 (bookA S)) := fun Z hf => h.B.fr hf (by simp)
  have c1 : w.cell? ⟨S.g, 1, none⟩ = some (.bool false) := h.B.cell 1
  clear h
  go_enter Tryz.func7, Tryz.ntmps7
  go_wp2_with fail
  refine (Calls.mono (holdBytes_any S _ (HB.out _ (Fr.refl _ _))) ?_)
  rintro e z ⟨rfl, rfl⟩
  go_wp2_with fail
  refine (Calls.mono HI.out ?_)
  rintro e z ⟨rfl, hf⟩
  have HF := Lib.hid hf
  clear hf
  go_wp2_with fail
  refine (Calls.mono (holdBools_any S _ (HB.out _ HF.out)) ?_)
  rintro e z ⟨rfl, rfl⟩
  go_wp2_with fail
  refine (Calls.mono (holdWords_any S _ (HB.out _ HF.out)) ?_)
  rintro e z ⟨rfl, rfl⟩
  go_wp2_with fail
  refine (Calls.mono (holdTexts_any S _ (HB.out _ HF.out)) ?_)
  rintro e z ⟨rfl, rfl⟩
  go_wp2_with fail
  refine (Calls.mono (holdMoves_any S _ (HB.out _ HF.out)) ?_)
  rintro e z ⟨rfl, rfl⟩
  go_wp2_with fail
  refine (Calls.mono (holdSites_any S _ (HB.out _ HF.out)) ?_)
  rintro e z ⟨rfl, rfl⟩
  go_wp2_with fail
  refine (Calls.mono (holdGrowths_any S _ (HB.out _ HF.out)) ?_)
  rintro e z ⟨rfl, rfl⟩
  go_wp2_with fail
  refine (Calls.mono (holdOps_any S _ (HB.out _ HF.out)) ?_)
  rintro e z ⟨rfl, rfl⟩
  go_wp2_with fail
  refine (Calls.mono (holdIntLists_any S _ (HB.out _ HF.out)) ?_)
  rintro e z ⟨rfl, rfl⟩
  go_wp2_with fail
  refine (Calls.mono (holdWordLists_any S _ (HB.out _ HF.out)) ?_)
  rintro e z ⟨rfl, rfl⟩
  go_wp2_with fail
  refine (Calls.mono (holdFrames_any S _ (HB.out _ HF.out)) ?_)
  rintro e z ⟨rfl, rfl⟩
  go_wp2_with fail
  refine (Calls.mono (holdObjects_any S _ (HB.out _ HF.out)) ?_)
  rintro e z ⟨rfl, rfl⟩
  go_wp2_with fail
  go_ret
  exact ⟨rfl, HF.out⟩
end Go.Proofs.YtdcppdgnekhcgaaGreatDoor
