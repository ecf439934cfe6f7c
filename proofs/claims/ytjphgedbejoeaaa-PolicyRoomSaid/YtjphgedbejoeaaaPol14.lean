/-
  Two turns that are asked in turns: the statement's walk.
-/
import Derived.Test.YtjphgedbejoeaaaPol13
import Derived.Test.YtjphgedbejoeaaaPolAsk
import Derived.Test.YtjphgedbejoeaaaSame12
namespace Go.Proofs.Ytjphgedbejoeaaa
open Go.RowKit Pol
set_option linter.unusedVariables false

theorem ask_range {w : World} {a : Nat} {c : Nat → Int} {base kind words : Int} {sv : Value} (h : Bk w a 30 (askA c base kind words sv)) : w.rangeAt a 0 (cfgA c).toList := by
  intro i v hi
  have hlt : i < 14 := by
    have := (List.getElem?_eq_some_iff.1 hi).1
    have h14 : (cfgA c).toList.length = 14 := rfl
    omega
  rw [Nat.zero_add, h.cell i, ← hi]
  match i, hlt with
  | 0, _ | 1, _ | 2, _ | 3, _ | 4, _ | 5, _ | 6, _ | 7, _ | 8, _ | 9, _ | 10, _ | 11, _ | 12, _ | 13, _ => rfl

theorem ask_cells {w : World} {a : Nat} {c : Nat → Int} {base kind words : Int} {sv : Value} (h : Bk w a 30 (askA c base kind words sv)) :
    w.cell? ⟨a, 14, none⟩ = some (.int .i64 base) ∧ w.cell? ⟨a, 15, none⟩ = some (.int .i64 kind) ∧ w.cell? ⟨a, 16, none⟩ = some (.int .i64 words) ∧ w.cell? ⟨a, 17, none⟩ = some sv :=
  ⟨h.cell 14, h.cell 15, h.cell 16, h.cell 17⟩

/-- The two turns of the program and the two of the document, side by side: each pair as far as the other. -/
def TwoAt (W0 : World) (g1 g2 g3 g4 : Nat) (c1 : Nat → Int) (b1 k1 w1 : Int) (c2 : Nat → Int) (b2 k2 w2 : Int) (w : World) : Prop :=
  ∃ s l s' l' cyc1 cyc2 cl3 ov3 rv3 cl4 ov4 rv4, Quad W0 w (g1 :: cyc1.ownBlock.toList) (g2 :: cyc2.ownBlock.toList) (g3 :: rv3.ownBlock.toList) (g4 :: rv4.ownBlock.toList)
    (fun w => PT w g1 c1 b1 (limitOf c1 b1) w1 s l cyc1) (fun w => PT w g2 c2 b2 (limitOf c2 b2) w2 s' l' cyc2)
    (fun w => RT w g3 c1 k1 w1 b1 (limitOf c1 b1) s l cl3 ov3 rv3) (fun w => RT w g4 c2 k2 w2 b2 (limitOf c2 b2) s' l' cl4 ov4 rv4)

theorem listed_rd {w : World} {base : Nat} {l : List Int} {v : Value} (h : w.ownsRow base 3 1 v l.length (ints l)) : ∃ A cap, v = .slice A l.length cap ∧ RdI w A l := by
  obtain ⟨A, cap, rfl⟩ := own_form h
  exact ⟨A, cap, rfl, (RdI.own h).2⟩

set_option maxRecDepth 100000 in
set_option maxHeartbeats 4000000 in
theorem two_any (c1 : Nat → Int) (b1 k1 w1 : Int) (A1 : Option Addr) (n1 d1 : Nat) (l1 : List Vw) (c2 : Nat → Int) (b2 k2 w2 : Int) (A2 : Option Addr) (n2 d2 : Nat) (l2 : List Vw) (w : World)
    (hn1 : n1 = l1.length) (hr1 : RdV w A1 l1) (hw1 : w1 ≤ 9223372036854775807) (hn2 : n2 = l2.length) (hr2 : RdV w A2 l2) (hw2 : w2 ≤ 9223372036854775807) :
    Calls Try.prog 4 #[.agg (askA c1 b1 k1 w1 (.slice A1 n1 d1)), .agg (askA c2 b2 k2 w2 (.slice A2 n2 d2))] w fun e w' => e = .returned (.bool true) ∧ Fr [] w w' := by
  have HR1 := Lib.hid hr1
  have HR2 := Lib.hid hr2
  subst hn1 hn2
  have hb1 := hr1.1
  have hb2 := hr2.1
  clear hr1 hr2
  go_enter Try.func4, Try.ntmps4
  go_wp2_with fail
  refine (known_any _).mono ?_
  rintro e w3 ⟨rfl, hf⟩
  have HA1 : Hid (Bk w3 w.heap.size 30 (askA c1 b1 k1 w1 (.slice A1 l1.length d1))) := ((Bk.new w _ _).alloc _).fr hf (by simp)
  have HA2 : Hid (Bk w3 (w.heap.size + 1) 30 (askA c2 b2 k2 w2 (.slice A2 l2.length d2))) := (Bk.new_at _ _ _ _ (by simp)).fr hf (by simp)
  have HF3 : Hid (Fr [] w w3) := (((Fr.refl [] w).alloc _).alloc _).trans hf (by simp)
  clear hf
  have HA0 := Lib.hid (And.intro HA1.out HA2.out)
  obtain ⟨x14, x15, x16, x17⟩ := ask_cells HA1.out
  go_wp2_with (refine wpList_load_mid rfl 23 _ rfl w.heap.size 0 rfl (cfgA c1).toList _ (ask_range HA1.out) Try.underlying23 rfl (by kernel_rfl) ?_)
  refine (begin_any c1 b1 k1 w1 _ hw1).mono ?_
  rintro e z4 ⟨ps, rfl, hf, hs⟩
  have HSs := Lib.hid hs
  have HA1 := Lib.hid (HA1.out.fr hf (by simp))
  have HA2 := Lib.hid (HA2.out.fr hf (by simp))
  have HF4 : Hid (Fr [] w z4) := HF3.out.trans hf (by simp)
  have HG4 : Hid (Fr [] w3 z4) := hf
  clear hs hf x14 x15 x16 x17
  obtain ⟨x14, x15, x16, x17⟩ := ask_cells HA2.out
  go_wp2_with (refine wpList_load_mid rfl 23 _ rfl (w.heap.size + 1) 0 rfl (cfgA c2).toList _ (ask_range HA2.out) Try.underlying23 rfl (by kernel_rfl) ?_)
  refine (begin_any c2 b2 k2 w2 _ hw2).mono ?_
  rintro e z5 ⟨pt, rfl, hf, hs⟩
  have HSt := Lib.hid hs
  have HA1 := Lib.hid (HA1.out.fr hf (by simp))
  have HA2 := Lib.hid (HA2.out.fr hf (by simp))
  have HF5 : Hid (Fr [] w z5) := HF4.out.trans hf (by simp)
  have HG5 : Hid (Fr [] z4 z5) := hf
  clear hs hf x14 x15 x16 x17
  obtain ⟨x14, x15, x16, x17⟩ := ask_cells HA1.out
  go_wp2_with (refine wpList_load_mid rfl 23 _ rfl w.heap.size 0 rfl (cfgA c1).toList _ (ask_range HA1.out) Try.underlying23 rfl (by kernel_rfl) ?_)
  refine (rbegin_any c1 b1 k1 w1 _ hw1).mono ?_
  rintro e z6 ⟨pv, rfl, hf, hs⟩
  have HSv := Lib.hid hs
  have HA1 := Lib.hid (HA1.out.fr hf (by simp))
  have HA2 := Lib.hid (HA2.out.fr hf (by simp))
  have HF6 : Hid (Fr [] w z6) := HF5.out.trans hf (by simp)
  have HG6 : Hid (Fr [] z5 z6) := hf
  clear hs hf x14 x15 x16 x17
  obtain ⟨x14, x15, x16, x17⟩ := ask_cells HA2.out
  go_wp2_with (refine wpList_load_mid rfl 23 _ rfl (w.heap.size + 1) 0 rfl (cfgA c2).toList _ (ask_range HA2.out) Try.underlying23 rfl (by kernel_rfl) ?_)
  refine (rbegin_any c2 b2 k2 w2 _ hw2).mono ?_
  rintro e z7 ⟨pu, rfl, hf, hs⟩
  have HSu := Lib.hid hs
  have HA1 := Lib.hid (HA1.out.fr hf (by simp))
  have HA2 := Lib.hid (HA2.out.fr hf (by simp))
  have HF7 : Hid (Fr [] w z7) := HF6.out.trans hf (by simp)
  have HG7 : Hid (Fr [] z6 z7) := hf
  clear hs hf x14 x15 x16 x17
  go_upto_region 7 with fail
  obtain ⟨e1, he1⟩ : ∃ e1, beginErr c1 b1 k1 w1 = e1 := ⟨_, rfl⟩
  obtain ⟨e2, he2⟩ : ∃ e2, beginErr c2 b2 k2 w2 = e2 := ⟨_, rfl⟩
  rw [he1] at HSs HSv ⊢
  rw [he2] at HSt HSu ⊢
  have HE1 := Lib.hid he1
  have HE2 := Lib.hid he2
  clear he1 he2
  rcases HSs.out with ⟨h1, rfl⟩ | ⟨h1, g1, rfl, hg1, hP1⟩
  · rcases HSv.out with ⟨_, rfl⟩ | ⟨h3, _⟩
    · rcases HSt.out with ⟨h2, rfl⟩ | ⟨h2, g2, rfl, _, _⟩
      · rcases HSu.out with ⟨_, rfl⟩ | ⟨h4, _⟩
        · clear h1 h2
          go_wp2_with fail
          go_ret
          exact ⟨rfl, HF7.out⟩
        · exact absurd h4 h2
      · rcases HSu.out with ⟨h4, _⟩ | ⟨_, g4, rfl, _, _⟩
        · exact absurd h2 h4
        · clear h1 h2
          go_wp2_with fail
          go_ret
          exact ⟨rfl, HF7.out⟩
    · exact absurd h3 h1
  rcases HSv.out with ⟨h3, _⟩ | ⟨-, g3, rfl, hg3, hR3⟩
  · exact absurd h1 h3
  rcases HSt.out with ⟨h2, rfl⟩ | ⟨h2, g2, rfl, hg2, hP2⟩
  · rcases HSu.out with ⟨_, rfl⟩ | ⟨h4, _⟩
    · clear h1 h2 hg1 hP1 hg3 hR3
      go_wp2_with fail
      go_ret
      exact ⟨rfl, HF7.out⟩
    · exact absurd h4 h2
  rcases HSu.out with ⟨h4, _⟩ | ⟨-, g4, rfl, hg4, hR4⟩
  · exact absurd h2 h4
  have l1t := hP1.B.lt
  have l2t := hP2.B.lt
  have l3t := hR3.R.B.lt
  have s4 := HG4.out.size
  have s5 := HG5.out.size
  have s6 := HG6.out.size
  have s7 := HG7.out.size
  have HQ : Hid (Quad w3 z7 (g1 :: (Value.slice none 0 0).ownBlock.toList) (g2 :: (Value.slice none 0 0).ownBlock.toList) (g3 :: (Value.slice none 0 0).ownBlock.toList) (g4 :: (Value.slice none 0 0).ownBlock.toList)
      (fun w => PT w g1 c1 b1 (limitOf c1 b1) w1 (st0 (phOf c1 k1 w1)) [] (.slice none 0 0)) (fun w => PT w g2 c2 b2 (limitOf c2 b2) w2 (st0 (phOf c2 k2 w2)) [] (.slice none 0 0))
      (fun w => RT w g3 c1 k1 w1 b1 (limitOf c1 b1) (st0 (phOf c1 k1 w1)) [] false false (.slice none 0 0)) (fun w => RT w g4 c2 k2 w2 b2 (limitOf c2 b2) (st0 (phOf c2 k2 w2)) [] false false (.slice none 0 0))) := by
    have d : ∀ {a b : Nat}, a ≠ b → Dis (a :: (Value.slice none 0 0).ownBlock.toList) (b :: (Value.slice none 0 0).ownBlock.toList) := by
      intro a b h x hx hy
      simp [Value.ownBlock] at hx hy
      omega
    have nw : ∀ {a n : Nat}, n ≤ a → ∀ x ∈ a :: (Value.slice none 0 0).ownBlock.toList, n ≤ x := by
      intro a n h x hx
      simp [Value.ownBlock] at hx
      omega
    exact ⟨PT.ob .., PT.ob .., RT.ob .., RT.ob .., (PT.ob ..).fr ((PT.ob ..).fr ((PT.ob ..).fr hP1 HG5.out (by simp [Dis])) HG6.out (by simp [Dis])) HG7.out (by simp [Dis]),
      (PT.ob ..).fr ((PT.ob ..).fr hP2 HG6.out (by simp [Dis])) HG7.out (by simp [Dis]), (RT.ob ..).fr hR3 HG7.out (by simp [Dis]), hR4,
      ((HG4.out.trans HG5.out (by simp)).trans HG6.out (by simp)).trans HG7.out (by simp),
      nw (by omega), nw (by omega), nw (by omega), nw (by omega), d (by omega), d (by omega), d (by omega), d (by omega), d (by omega), d (by omega)⟩
  clear h1 h2 hg1 hP1 hg2 hP2 hg3 hR3 hg4 hR4 l1t l2t l3t s4 s5 s6 s7 HSs HSv HSt HSu
  have HTW : Hid (TwoAt w3 g1 g2 g3 g4 c1 b1 k1 w1 c2 b2 k2 w2 z7) := ⟨_, _, _, _, _, _, _, _, _, _, _, _, HQ.out⟩
  have HM : Hid (Bk w3 w.heap.size 30 (askA c1 b1 k1 w1 (.slice A1 l1.length d1)) ∧ Bk w3 (w.heap.size + 1) 30 (askA c2 b2 k2 w2 (.slice A2 l2.length d2))) := HA0.out
  clear HQ HA1 HA2 HA0 HG4 HG5 HG6 HG7 HF4 HF5 HF6 HF7 HE1 HE2
  go_wp2_with fail
  go_loopw [13, 14, 15] (fun i _ _ wr => ∃ k : Nat, k ≤ l1.length ∧ k ≤ l2.length ∧ i = .int .i64 k ∧ Hid (TwoAt w3 g1 g2 g3 g4 c1 b1 k1 w1 c2 b2 k2 w2 wr)) (fun i _ _ _ => l1.length - (intOf i).toNat)
  case atStart => exact ⟨0, by omega, by omega, rfl, HTW.out⟩
  case round =>
    obtain ⟨k, hk1, hk2, rfl, htw⟩ := hrel
    have HTW := Lib.hid htw.out
    clear htw
    obtain ⟨s, l, s', l', cyc1, cyc2, cl3, ov3, rv3, cl4, ov4, rv4, hq⟩ := HTW.out
    have HQ := Lib.hid hq
    clear hq
    have HA1 : Hid (Bk wr w.heap.size 30 (askA c1 b1 k1 w1 (.slice A1 l1.length d1))) := HM.out.1.fr HQ.out.f (by simp)
    have HA2 : Hid (Bk wr (w.heap.size + 1) 30 (askA c2 b2 k2 w2 (.slice A2 l2.length d2))) := HM.out.2.fr HQ.out.f (by simp)
    have x17 : wr.cell? ⟨w.heap.size, 17, none⟩ = some (.slice A1 l1.length d1) := HA1.out.cell 17
    have y17 : wr.cell? ⟨w.heap.size + 1, 17, none⟩ = some (.slice A2 l2.length d2) := HA2.out.cell 17
    have i0 : (0 : Int) ≤ (k : Int) := by omega
    by_cases hlt1 : k < l1.length
    · by_cases hlt2 : k < l2.length
      · have i1 : (k : Int) < (l1.length : Int) := by omega
        have i2 : (k : Int) < (l2.length : Int) := by omega
        obtain ⟨v1, hv1⟩ : ∃ v, l1[k]? = some v := ⟨_, List.getElem?_eq_getElem hlt1⟩
        obtain ⟨v2, hv2⟩ : ∃ v, l2[k]? = some v := ⟨_, List.getElem?_eq_getElem hlt2⟩
        obtain ⟨bb1, oo1, hA1, -, hc1⟩ := HR1.out.2 (by omega)
        obtain ⟨bb2, oo2, hA2, -, hc2⟩ := HR2.out.2 (by omega)
        subst hA1 hA2
        have HC1 : Hid (∀ {W : World}, Fr [] w W → W.cell? ⟨bb1, oo1 + k * 4, none⟩ = some (.int .i64 v1.eden) ∧ W.cell? ⟨bb1, oo1 + k * 4 + 1, none⟩ = some (.int .i64 v1.young) ∧ W.cell? ⟨bb1, oo1 + k * 4 + 2, none⟩ = some (.int .i64 v1.ten) ∧ W.cell? ⟨bb1, oo1 + k * 4 + 3, none⟩ = some (.int .i64 v1.room)) := fun {W} hf => by
          obtain ⟨b', o', he, -, hc⟩ := (HR1.out.fr hf).2 (by omega)
          injection he with he
          injection he with h1 h2
          subst h1 h2
          exact hc k v1 hv1
        have HC2 : Hid (∀ {W : World}, Fr [] w W → W.cell? ⟨bb2, oo2 + k * 4, none⟩ = some (.int .i64 v2.eden) ∧ W.cell? ⟨bb2, oo2 + k * 4 + 1, none⟩ = some (.int .i64 v2.young) ∧ W.cell? ⟨bb2, oo2 + k * 4 + 2, none⟩ = some (.int .i64 v2.ten) ∧ W.cell? ⟨bb2, oo2 + k * 4 + 3, none⟩ = some (.int .i64 v2.room)) := fun {W} hf => by
          obtain ⟨b', o', he, -, hc⟩ := (HR2.out.fr hf).2 (by omega)
          injection he with he
          injection he with h1 h2
          subst h1 h2
          exact hc k v2 hv2
        clear hc1 hc2 hv1 hv2
        have hlim1 := limitOf c1 b1
        obtain ⟨m1, hm1⟩ : ∃ m, (stepOf w1 (limitOf c1 b1) s (clipV v1)).1 = m := ⟨_, rfl⟩
        obtain ⟨m2, hm2⟩ : ∃ m, (stepOf w2 (limitOf c2 b2) s' (clipV v2)).1 = m := ⟨_, rfl⟩
        have HM1 := Lib.hid hm1
        have HM2 := Lib.hid hm2
        clear hm1 hm2 hlim1
        obtain ⟨a0, a1, a2, a3⟩ := HC1.out (HF3.out.trans HQ.out.f (by simp))
        go_wp2_with fail
        refine (next_any g1 c1 b1 (limitOf c1 b1) w1 s l cyc1 v1 _ HQ.out.p1).mono ?_
        rintro e z1 ⟨cyc1', rfl, hp, hown, hf⟩
        rw [HM1.out]
        have HQ1 := Lib.hid ((HQ.out.step hf (own_step hown) (PT.ob ..) hp).rot)
        clear hp hown hf a0 a1 a2 a3 x17 y17 HQ HA1 HA2
        have x17 : z1.cell? ⟨w.heap.size, 17, none⟩ = some (.slice (some ⟨bb1, oo1, none⟩) l1.length d1) := (HM.out.1.fr HQ1.out.f (by simp)).cell 17
        have y17 : z1.cell? ⟨w.heap.size + 1, 17, none⟩ = some (.slice (some ⟨bb2, oo2, none⟩) l2.length d2) := (HM.out.2.fr HQ1.out.f (by simp)).cell 17
        obtain ⟨a0, a1, a2, a3⟩ := HC2.out (HF3.out.trans HQ1.out.f (by simp))
        go_wp2_with fail
        refine (next_any g2 c2 b2 (limitOf c2 b2) w2 s' l' cyc2 v2 _ HQ1.out.p1).mono ?_
        rintro e z2 ⟨cyc2', rfl, hp, hown, hf⟩
        rw [HM2.out]
        have HQ2 := Lib.hid ((HQ1.out.step hf (own_step hown) (PT.ob ..) hp).rot)
        clear hp hown hf a0 a1 a2 a3 x17 y17 HQ1
        have x17 : z2.cell? ⟨w.heap.size, 17, none⟩ = some (.slice (some ⟨bb1, oo1, none⟩) l1.length d1) := (HM.out.1.fr HQ2.out.f (by simp)).cell 17
        have y17 : z2.cell? ⟨w.heap.size + 1, 17, none⟩ = some (.slice (some ⟨bb2, oo2, none⟩) l2.length d2) := (HM.out.2.fr HQ2.out.f (by simp)).cell 17
        obtain ⟨a0, a1, a2, a3⟩ := HC1.out (HF3.out.trans HQ2.out.f (by simp))
        go_wp2_with fail
        refine (rnext_any g3 c1 k1 w1 b1 (limitOf c1 b1) s l cl3 ov3 rv3 v1 _ HQ2.out.p1).mono ?_
        rintro e z3 ⟨cl3', ov3', rv3', rfl, hp, hown, hf⟩
        rw [HM1.out]
        have HQ3 := Lib.hid ((HQ2.out.step hf (own_step hown) (RT.ob ..) hp).rot)
        clear hp hown hf a0 a1 a2 a3 x17 y17 HQ2
        have x17 : z3.cell? ⟨w.heap.size, 17, none⟩ = some (.slice (some ⟨bb1, oo1, none⟩) l1.length d1) := (HM.out.1.fr HQ3.out.f (by simp)).cell 17
        have y17 : z3.cell? ⟨w.heap.size + 1, 17, none⟩ = some (.slice (some ⟨bb2, oo2, none⟩) l2.length d2) := (HM.out.2.fr HQ3.out.f (by simp)).cell 17
        obtain ⟨a0, a1, a2, a3⟩ := HC2.out (HF3.out.trans HQ3.out.f (by simp))
        have hmm : (m1 != m1) = false := by simp
        go_wp2_with fail
        refine (rnext_any g4 c2 k2 w2 b2 (limitOf c2 b2) s' l' cl4 ov4 rv4 v2 _ HQ3.out.p1).mono ?_
        rintro e z4 ⟨cl4', ov4', rv4', rfl, hp, hown, hf⟩
        rw [HM2.out]
        have HQ4 := Lib.hid ((HQ3.out.step hf (own_step hown) (RT.ob ..) hp).rot)
        clear hp hown hf a0 a1 a2 a3 x17 y17 HQ3
        go_wp2_with fail
        go_roundw
        case rel => exact ⟨k + 1, by omega, by omega, by go_num, _, _, _, _, _, _, _, _, _, _, _, _, HQ4.out⟩
        case measure => simp [intOf]; omega
      · have i1 : (k : Int) < (l1.length : Int) := by omega
        have i2 : ¬ ((k : Int) < (l2.length : Int)) := by omega
        have i3 : decide ((k : Int) < (l2.length : Int)) = false := by simpa using i2
        clear hlt1 hlt2
        go_wp2_with fail
        refine (cycles_any g1 c1 b1 (limitOf c1 b1) w1 s l cyc1 _ HQ.out.p1).mono ?_
        rintro e z1 ⟨v1, rfl, hown, hf⟩
        obtain ⟨L1, q1, rfl, hr⟩ := listed_rd hown
        have HL1 := Lib.hid hr
        have HQ1 := Lib.hid (HQ.out.new hf)
        clear hown hf hr x17 y17
        go_wp2_with fail
        refine (rcycles_any g3 c1 k1 w1 b1 (limitOf c1 b1) s l cl3 ov3 rv3 _ HQ1.out.p3).mono ?_
        rintro e z2 ⟨v2, rfl, hown, hf⟩
        obtain ⟨L2, q2, rfl, hr⟩ := listed_rd hown
        have HL2 := Lib.hid hr
        have HL1 := Lib.hid (HL1.out.fr hf (by simp))
        have HQ2 := Lib.hid (HQ1.out.new hf)
        clear hown hf hr
        go_wp2_with fail
        refine (same_yes L1 L2 l _ q1 q2 _ rfl HL1.out HL2.out).mono ?_
        rintro e z3 ⟨rfl, hf⟩
        have HQ3 := Lib.hid (HQ2.out.new hf)
        clear hf HL1 HL2
        go_wp2_with fail
        refine (cycles_any g2 c2 b2 (limitOf c2 b2) w2 s' l' cyc2 _ HQ3.out.p2).mono ?_
        rintro e z4 ⟨v1, rfl, hown, hf⟩
        obtain ⟨L1, q1, rfl, hr⟩ := listed_rd hown
        have HL1 := Lib.hid hr
        have HQ4 := Lib.hid (HQ3.out.new hf)
        clear hown hf hr
        go_wp2_with fail
        refine (rcycles_any g4 c2 k2 w2 b2 (limitOf c2 b2) s' l' cl4 ov4 rv4 _ HQ4.out.p4).mono ?_
        rintro e z5 ⟨v2, rfl, hown, hf⟩
        obtain ⟨L2, q2, rfl, hr⟩ := listed_rd hown
        have HL2 := Lib.hid hr
        have HL1 := Lib.hid (HL1.out.fr hf (by simp))
        have HQ5 := Lib.hid (HQ4.out.new hf)
        clear hown hf hr
        go_wp2_with fail
        refine (same_yes L1 L2 l' _ q1 q2 _ rfl HL1.out HL2.out).mono ?_
        rintro e z6 ⟨rfl, hf⟩
        have HQ6 := Lib.hid (HQ5.out.new hf)
        clear hf HL1 HL2
        go_wp2_with fail
        go_ret
        exact ⟨rfl, HF3.out.trans HQ6.out.f (by simp)⟩
    · have i1 : ¬ ((k : Int) < (l1.length : Int)) := by omega
      have i3 : decide ((k : Int) < (l1.length : Int)) = false := by simpa using i1
      clear hlt1
      go_wp2_with fail
      refine (cycles_any g1 c1 b1 (limitOf c1 b1) w1 s l cyc1 _ HQ.out.p1).mono ?_
      rintro e z1 ⟨v1, rfl, hown, hf⟩
      obtain ⟨L1, q1, rfl, hr⟩ := listed_rd hown
      have HL1 := Lib.hid hr
      have HQ1 := Lib.hid (HQ.out.new hf)
      clear hown hf hr x17 y17
      go_wp2_with fail
      refine (rcycles_any g3 c1 k1 w1 b1 (limitOf c1 b1) s l cl3 ov3 rv3 _ HQ1.out.p3).mono ?_
      rintro e z2 ⟨v2, rfl, hown, hf⟩
      obtain ⟨L2, q2, rfl, hr⟩ := listed_rd hown
      have HL2 := Lib.hid hr
      have HL1 := Lib.hid (HL1.out.fr hf (by simp))
      have HQ2 := Lib.hid (HQ1.out.new hf)
      clear hown hf hr
      go_wp2_with fail
      refine (same_yes L1 L2 l _ q1 q2 _ rfl HL1.out HL2.out).mono ?_
      rintro e z3 ⟨rfl, hf⟩
      have HQ3 := Lib.hid (HQ2.out.new hf)
      clear hf HL1 HL2
      go_wp2_with fail
      refine (cycles_any g2 c2 b2 (limitOf c2 b2) w2 s' l' cyc2 _ HQ3.out.p2).mono ?_
      rintro e z4 ⟨v1, rfl, hown, hf⟩
      obtain ⟨L1, q1, rfl, hr⟩ := listed_rd hown
      have HL1 := Lib.hid hr
      have HQ4 := Lib.hid (HQ3.out.new hf)
      clear hown hf hr
      go_wp2_with fail
      refine (rcycles_any g4 c2 k2 w2 b2 (limitOf c2 b2) s' l' cl4 ov4 rv4 _ HQ4.out.p4).mono ?_
      rintro e z5 ⟨v2, rfl, hown, hf⟩
      obtain ⟨L2, q2, rfl, hr⟩ := listed_rd hown
      have HL2 := Lib.hid hr
      have HL1 := Lib.hid (HL1.out.fr hf (by simp))
      have HQ5 := Lib.hid (HQ4.out.new hf)
      clear hown hf hr
      go_wp2_with fail
      refine (same_yes L1 L2 l' _ q1 q2 _ rfl HL1.out HL2.out).mono ?_
      rintro e z6 ⟨rfl, hf⟩
      have HQ6 := Lib.hid (HQ5.out.new hf)
      clear hf HL1 HL2
      go_wp2_with fail
      go_ret
      exact ⟨rfl, HF3.out.trans HQ6.out.f (by simp)⟩
end Go.Proofs.Ytjphgedbejoeaaa
