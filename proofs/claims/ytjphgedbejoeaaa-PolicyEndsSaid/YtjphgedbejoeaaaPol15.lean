/-
  A turn ends: the statement's walk.
-/
import Derived.Test.YtjphgedbejoeaaaPol13
import Derived.Test.YtjphgedbejoeaaaPolAsk
import Derived.Test.YtjphgedbejoeaaaPol14
import Derived.Test.YtjphgedbejoeaaaPolEndsPlain
import Derived.Deep.Cut
import Derived.Deep.CutRange
import Derived.Deep.DeepCutAuto
import Derived.StillTailTactics
import Derived.IntWalk
import Derived.Deep.RegionHeld3
namespace Go.Proofs.Ytjphgedbejoeaaa
open Go.RowKit Pol
set_option linter.unusedVariables false

theorem sure_any (v : Vw) (w : World) (h : clip v.young ≤ clip v.room) :
    Calls Try.prog 19 #[.agg #[.int .i64 v.eden, .int .i64 v.young, .int .i64 v.ten, .int .i64 v.room]] w fun e w' => e = .returned (.bool true) ∧ Fr [] w w' := by
  by_cases h1 : v.young < 0 <;> by_cases h2 : v.room < 0
  all_goals
    simp only [clip, h1, h2, if_true, if_false] at h
    go_enter Try.func19, Try.ntmps19
    go_wp2
    all_goals
      go_ret
      refine ⟨?_, (Fr.refl _ _).alloc _⟩
      exact rfl

def hadA (h : Nat → Int) : Array Value := #[.int .i64 (h 0), .int .i64 (h 1), .int .i64 (h 2), .int .i64 (h 3), .int .i64 (h 4), .int .i64 (h 5), .int .i64 (h 6), .int .i64 (h 7)]

theorem PT.out {w : World} {g : Nat} {c : Nat → Int} {base limit words : Int} {s : St} {l : List Int} {cyc : Value} (P : PT w g c base limit words s l cyc) {b : Nat} {t : TypeId} {cs : Array Value} (hb : Bk w b t cs)
    (h1 : t ≠ 61) (h2 : t ≠ 3) : b ∉ g :: cyc.ownBlock.toList := by
  intro hx
  rcases List.mem_cons.1 hx with rfl | hx
  · exact hb.ne P.B h1 rfl
  · obtain ⟨cs', hb'⟩ := own_bk P.O (by simpa using hx)
    exact hb.ne hb' h2 rfl

theorem cycles_len (g : Nat) (c : Nat → Int) (base limit words : Int) (s : St) (l : List Int) (cyc : Value) (w : World) (hP : PT w g c base limit words s l cyc) :
    Calls Try.prog 17 #[.pointer (some ⟨g, 0, none⟩)] w fun e w' => ∃ A cap, e = .returned (.slice A l.length cap) ∧ Fr [] w w' := by
  refine (cycles_any g c base limit words s l cyc w hP).mono ?_
  rintro e w' ⟨v, rfl, hown, hf⟩
  rcases hown.2 with ⟨rfl, h0⟩ | ⟨g', cap, cur, rfl, _⟩
  · exact ⟨none, 0, by rw [h0], hf⟩
  · exact ⟨_, cap, rfl, hf⟩

/-- The turn and what is counted, at the loop's head. -/
def EndsAt (W0 : World) (gH g : Nat) (c : Nat → Int) (base kind words : Int) (k : Nat) (ov : Bool) (w : World) : Prop :=
  ∃ s l h cyc, PT w g c base (limitOf c base) words s l cyc ∧ EInv kind s l h k ov ∧ Bk w gH 45 (hadA h) ∧ Fr [] W0 w ∧ (∀ x ∈ g :: cyc.ownBlock.toList, W0.heap.size ≤ x) ∧ W0.heap.size ≤ gH


set_option maxRecDepth 100000 in
set_option maxHeartbeats 8000000 in
theorem ends_any (c : Nat → Int) (base kind words : Int) (A : Option Addr) (n q : Nat) (l0 : List Vw) (w : World) (hn : n = l0.length) (hr : RdV w A l0) (hw : words ≤ 9223372036854775807) :
    Calls Try.prog 5 #[.agg (askA c base kind words (.slice A n q))] w fun e w' => e = .returned (.bool true) ∧ Fr [] w w' := by
  subst hn
  have HR := Lib.hid hr
  have hb := hr.1
  clear hr
  go_enter Try.func5, Try.ntmps5
  go_wp2_with fail
  refine (known_any _).mono ?_
  rintro e w3 ⟨rfl, hf⟩
  have HA := Lib.hid ((Bk.new w 30 (askA c base kind words (.slice A l0.length q))).fr hf (by simp))
  have HF3 : Hid (Fr [] w w3) := ((Fr.refl [] w).alloc _).trans hf (by simp)
  have HM := Lib.hid HA.out
  clear hf
  obtain ⟨x14, x15, x16, x17⟩ := ask_cells HA.out
  go_wp2_with (refine wpList_load_mid rfl 23 _ rfl w.heap.size 0 rfl (cfgA c).toList _ (ask_range HA.out) Try.underlying23 rfl (by kernel_rfl) ?_)
  refine (begin_any c base kind words _ hw).mono ?_
  rintro e z4 ⟨ps, rfl, hf, hs⟩
  have HS := Lib.hid hs
  have HA := Lib.hid (HA.out.fr hf (by simp))
  have HF4 : Hid (Fr [] w3 z4) := hf
  have HG4 : Hid (Fr [] w3 z4) := hf
  clear hs hf x14 x15 x16 x17
  obtain ⟨x14, x15, x16, x17⟩ := ask_cells HA.out
  go_wp2_with (refine wpList_load_mid rfl 23 _ rfl w.heap.size 0 rfl (cfgA c).toList _ (ask_range HA.out) Try.underlying23 rfl (by kernel_rfl) ?_)
  refine (rbegin_any c base kind words _ hw).mono ?_
  rintro e z5 ⟨pv, rfl, hf, hs⟩
  have HSv := Lib.hid hs
  have HA := Lib.hid (HA.out.fr hf (by simp))
  have HF5 : Hid (Fr [] w3 z5) := HF4.out.trans hf (by simp)
  have HG5 : Hid (Fr [] z4 z5) := hf
  clear hs hf x14 x15 x16 x17
  go_upto_region 5 with fail
  obtain ⟨e1, he1⟩ : ∃ e1, beginErr c base kind words = e1 := ⟨_, rfl⟩
  rw [he1] at HS HSv ⊢
  have HE1 := Lib.hid he1
  clear he1
  rcases HS.out with ⟨h1, rfl⟩ | ⟨h1, g, rfl, hg, hP⟩
  · rcases HSv.out with ⟨_, rfl⟩ | ⟨h3, _⟩
    · have h1' : (e1 != 0) = true := by simpa using h1
      clear h1
      go_wp2_with fail
      go_ret
      exact ⟨rfl, HF3.out.trans HF5.out (by simp)⟩
    · exact absurd h3 h1
  rcases HSv.out with ⟨h3, _⟩ | ⟨-, g3, rfl, hg3, hR3⟩
  · exact absurd h1 h3
  subst h1
  have HK := Lib.hid (begin_none HE1.out).2.2.2
  have HP : Hid (PT z5 g c base (limitOf c base) words (st0 (phOf c kind words)) [] (.slice none 0 0)) := (PT.ob ..).fr hP HG5.out (by simp [Dis])
  have HG : Hid (w3.heap.size ≤ g) := hg
  clear hg hP hg3 hR3 HS HSv HG4 HG5
  go_upto_region 8 with fail
  have HX : Hid (EndsAt w3 z5.heap.size g c base kind words 0 false (z5.alloc (.cells (hadA fun _ => 0) 45))) := by
    refine ⟨_, _, fun _ => 0, _, (PT.ob ..).fr HP.out ((Fr.refl [] z5).alloc _) (by simp [Dis]), EInv.start kind (phOf c kind words) ?_ (phOf_fin c kind words), Bk.new _ _ _, HF5.out.alloc _, ?_, HF5.out.size⟩
    · unfold phOf
      by_cases hk : kind = 1
      · simp only [hk, if_true, iff_true]
        split <;> simp
      · simp only [hk, if_false, iff_false]
        repeat' split
        all_goals simp
    · intro x hx
      have : x = g := by simpa [Value.ownBlock] using hx
      subst this
      exact HG.out
  generalize hz6 : z5.alloc (.cells (hadA fun _ => 0) 45) = z6 at *
  have hz6' : z5.alloc (.cells #[.int .i64 0, .int .i64 0, .int .i64 0, .int .i64 0, .int .i64 0, .int .i64 0, .int .i64 0, .int .i64 0] 45) = z6 := hz6
  rw [hz6']
  clear hz6 hz6' HF5 HF4 HP HG HA
  generalize z5.heap.size = gH at *
  go_wp2_with fail
  go_loopw [8, 9, 10, 11] (fun o i _ _ wr => ∃ (k : Nat) (ov : Bool), k ≤ 12 ∧ o = .bool ov ∧ i = .int .i64 k ∧ Hid (EndsAt w3 gH g c base kind words k ov wr)) (fun _ i _ _ _ => 12 - (intOf i).toNat)
  case atStart => exact ⟨0, false, by omega, rfl, rfl, HX.out⟩
  case round =>
    obtain ⟨k, ov, hk, rfl, rfl, hx⟩ := hrel
    have HX1 := Lib.hid hx.out
    clear hx HX
    by_cases hlt : k < 12
    · have k1 : (k : Int) < 12 := by omega
      have HXF : Hid (Fr [] w3 wr) := by obtain ⟨_, _, _, _, _, _, _, hF, _⟩ := HX1.out; exact hF
      have x17 : wr.cell? ⟨w.heap.size, 17, none⟩ = some (.slice A l0.length q) := (HM.out.fr HXF.out (by simp)).cell 17
      have hlt17 := (HM.out.fr HXF.out (by simp)).lt
      go_upto_if 66 with fail
      go_cut [10] from 57 to 145 (fun u wx => u = .pointer (some ⟨wr.heap.size, 0, none⟩) ∧ Hid (∃ v : Vw, Bk wx wr.heap.size 40 #[.int .i64 v.eden, .int .i64 v.young, .int .i64 v.ten, .int .i64 v.room] ∧ Fr [] wr wx))
      case first =>
        by_cases hl : k < l0.length
        · have i1 : (k : Int) < (l0.length : Int) := by omega
          have i0 : (0 : Int) ≤ (k : Int) := by omega
          obtain ⟨v, hv⟩ : ∃ v, l0[k]? = some v := ⟨_, List.getElem?_eq_getElem hl⟩
          obtain ⟨bb, oo, rfl, hbb, hc⟩ := (HR.out.fr (HF3.out.trans HXF.out (by simp))).2 (by omega)
          obtain ⟨a0, a1, a2, a3⟩ := hc k v hv
          clear hc hv
          go_wp2_with fail
          go_meet
          case rel => exact ⟨rfl, v, Bk.new _ _ _, (Fr.refl _ _).alloc _⟩
        · have i1 : ¬ ((k : Int) < (l0.length : Int)) := by omega
          go_wp2_with fail
          go_meet
          case rel => exact ⟨rfl, ⟨0, 0, 0, 0⟩, Bk.new _ _ _, (Fr.refl _ _).alloc _⟩
      obtain ⟨rfl, hcut⟩ := hcut
      obtain ⟨v, hv, hfc⟩ := hcut.out
      obtain ⟨s, l, h, cyc, hP, hE, hH, hF, hN, hgH⟩ := HX1.out
      have HE := Lib.hid hE
      have HV := Lib.hid hv
      have HP := Lib.hid ((PT.ob ..).fr hP hfc (by simp [Dis]))
      have HH := Lib.hid (hH.fr hfc (by simp))
      have HF := Lib.hid (hF.trans hfc (by simp))
      have HN := Lib.hid hN
      have HGH := Lib.hid hgH
      clear hcut hv hfc hP hE hH hF hN hgH HX1
      have v0 : wc.cell? ⟨wr.heap.size, 0, none⟩ = some (.int .i64 v.eden) := HV.out.cell 0
      have v1 : wc.cell? ⟨wr.heap.size, 1, none⟩ = some (.int .i64 v.young) := HV.out.cell 1
      have v2 : wc.cell? ⟨wr.heap.size, 2, none⟩ = some (.int .i64 v.ten) := HV.out.cell 2
      have v3 : wc.cell? ⟨wr.heap.size, 3, none⟩ = some (.int .i64 v.room) := HV.out.cell 3
      generalize wr.heap.size = gV at *
      go_wp2_with fail
      refine (next_any g c base (limitOf c base) words s l cyc v _ HP.out).mono ?_
      rintro e z1 ⟨cyc', rfl, hp, hown, hf⟩
      have hst := HE.out.step (words := words) (limit := limitOf c base) (clipV v)
      have hnx := HE.out.next (words := words) (limit := limitOf c base) (clipV v)
      have HH := Lib.hid (HH.out.fr hf (HP.out.out HH.out (by decide) (by decide)))
      have HV := Lib.hid (HV.out.fr hf (HP.out.out HV.out (by decide) (by decide)))
      have HF1 : Hid (Fr [] w3 z1) := HF.out.trans hf (fun x hx => .inr (HN.out x hx))
      have HN1 : Hid (∀ x ∈ g :: cyc'.ownBlock.toList, w3.heap.size ≤ x) := fun x hx => by
        rcases own_step (g := g) hown x hx with h | h
        · exact HN.out x h
        · exact Nat.le_trans HF.out.size h
      have HP1 : Hid (PT z1 g c base (limitOf c base) words (after words (limitOf c base) s (clipV v)) (l ++ cycleOf (stepOf words (limitOf c base) s (clipV v)).1) cyc') := hp
      clear hp hown hf v0 v1 v2 v3 HP HF HN
      have HE5 : Hid (h 5 = b2i s.ma) := HE.out.ma
      have HNN : Hid (∀ k', 0 ≤ h k' ∧ h k' ≤ k) := HE.out.nn
      generalize after words (limitOf c base) s (clipV v) = s' at *
      generalize (stepOf words (limitOf c base) s (clipV v)).1 = n at *
      generalize l ++ cycleOf n = l' at *
      have HST := Lib.hid hst
      have HNX := Lib.hid hnx
      clear hst hnx HE
      have hgH := HH.out.lt
      have hcase : n = 1 ∨ n = 2 ∨ n = 3 ∨ n = 4 ∨ n = 5 ∨ n = 6 ∨ n = 7 := by have := HST.out.rng; omega
      rcases hcase with rfl | rfl | rfl | rfl | rfl | rfl | rfl
      · have c0 : z1.cell? ⟨gH, 1, none⟩ = some (.int .i64 (h 1)) := HH.out.cell 1
        have f0 := HH.out.free 1
        have hn0 : 0 ≤ h 1 := (HNN.out 1).1
        have hn1 : h 1 ≤ 12 := by have := (HNN.out 1).2; omega
        have k5 : (k : Int) < 5 := by have := HST.out.five (by decide); omega
        have d5 : decide ((5 : Int) ≤ (k : Int)) = false := by simp; omega
        obtain rfl : ov = false := by cases ov with | false => rfl | true => exact absurd (HST.out.fin rfl) (by decide)
        go_upto_region 19 with fail
        obtain ⟨z2, hz2⟩ : ∃ z2, z2 = z1.setCell ⟨gH, 1, none⟩ (.int .i64 (h 1 + 1)) := ⟨_, rfl⟩
        have HH2 : Hid (Bk z2 gH 45 (hadA (bump h 1))) := by subst hz2; exact HH.out.put 1 _
        have HV2 : Hid (Bk z2 gV 40 #[.int .i64 v.eden, .int .i64 v.young, .int .i64 v.ten, .int .i64 v.room]) := by subst hz2; exact HV.out.far (by simp; exact HV.out.ne HH.out (by decide)) _
        have hfz : Fr [gH] z1 z2 := by subst hz2; exact (Fr.refl _ _).setCell (by simp) _
        have HP2 := Lib.hid ((PT.ob ..).fr HP1.out hfz (fun x hx hy => by have : x = gH := (by simpa using hy); subst this; exact HP1.out.out HH.out (by decide) (by decide) hx))
        have HF2 : Hid (Fr [] w3 z2) := HF1.out.trans hfz (fun x hx => .inr (by have : x = gH := (by simpa using hx); subst this; exact HGH.out))
        rw [← hz2]
        clear hz2 hfz c0 f0
        have hgH := HH2.out.lt
        go_wp2_with fail
        go_quiet (fail)
        go_wp2_with fail
        go_roundw
        case rel => exact ⟨k + 1, false, by omega, rfl, by go_num, s', l', bump h 1, cyc', (PT.ob ..).fr HP2.out ((Fr.refl [] z2).drewN _) (by simp [Dis]), HNX.out, HH2.out.drewN _, HF2.out.drewN _, HN1.out, HGH.out⟩
        case measure => simp [intOf]; omega
      · have c0 : z1.cell? ⟨gH, 2, none⟩ = some (.int .i64 (h 2)) := HH.out.cell 2
        have f0 := HH.out.free 2
        have hn0 : 0 ≤ h 2 := (HNN.out 2).1
        have hn1 : h 2 ≤ 12 := by have := (HNN.out 2).2; omega
        have k5 : (k : Int) < 5 := by have := HST.out.five (by decide); omega
        have d5 : decide ((5 : Int) ≤ (k : Int)) = false := by simp; omega
        obtain rfl : ov = false := by cases ov with | false => rfl | true => exact absurd (HST.out.fin rfl) (by decide)
        go_upto_region 19 with fail
        obtain ⟨z2, hz2⟩ : ∃ z2, z2 = z1.setCell ⟨gH, 2, none⟩ (.int .i64 (h 2 + 1)) := ⟨_, rfl⟩
        have HH2 : Hid (Bk z2 gH 45 (hadA (bump h 2))) := by subst hz2; exact HH.out.put 2 _
        have HV2 : Hid (Bk z2 gV 40 #[.int .i64 v.eden, .int .i64 v.young, .int .i64 v.ten, .int .i64 v.room]) := by subst hz2; exact HV.out.far (by simp; exact HV.out.ne HH.out (by decide)) _
        have hfz : Fr [gH] z1 z2 := by subst hz2; exact (Fr.refl _ _).setCell (by simp) _
        have HP2 := Lib.hid ((PT.ob ..).fr HP1.out hfz (fun x hx hy => by have : x = gH := (by simpa using hy); subst this; exact HP1.out.out HH.out (by decide) (by decide) hx))
        have HF2 : Hid (Fr [] w3 z2) := HF1.out.trans hfz (fun x hx => .inr (by have : x = gH := (by simpa using hx); subst this; exact HGH.out))
        rw [← hz2]
        clear hz2 hfz c0 f0
        have hgH := HH2.out.lt
        go_wp2_with fail
        go_quiet (fail)
        go_wp2_with fail
        go_roundw
        case rel => exact ⟨k + 1, false, by omega, rfl, by go_num, s', l', bump h 2, cyc', (PT.ob ..).fr HP2.out ((Fr.refl [] z2).drewN _) (by simp [Dis]), HNX.out, HH2.out.drewN _, HF2.out.drewN _, HN1.out, HGH.out⟩
        case measure => simp [intOf]; omega
      · have c0 : z1.cell? ⟨gH, 3, none⟩ = some (.int .i64 (h 3)) := HH.out.cell 3
        have f0 := HH.out.free 3
        have hn0 : 0 ≤ h 3 := (HNN.out 3).1
        have hn1 : h 3 ≤ 12 := by have := (HNN.out 3).2; omega
        have k5 : (k : Int) < 5 := by have := HST.out.five (by decide); omega
        have d5 : decide ((5 : Int) ≤ (k : Int)) = false := by simp; omega
        obtain rfl : ov = false := by cases ov with | false => rfl | true => exact absurd (HST.out.fin rfl) (by decide)
        go_upto_region 19 with fail
        obtain ⟨z2, hz2⟩ : ∃ z2, z2 = z1.setCell ⟨gH, 3, none⟩ (.int .i64 (h 3 + 1)) := ⟨_, rfl⟩
        have HH2 : Hid (Bk z2 gH 45 (hadA (bump h 3))) := by subst hz2; exact HH.out.put 3 _
        have HV2 : Hid (Bk z2 gV 40 #[.int .i64 v.eden, .int .i64 v.young, .int .i64 v.ten, .int .i64 v.room]) := by subst hz2; exact HV.out.far (by simp; exact HV.out.ne HH.out (by decide)) _
        have hfz : Fr [gH] z1 z2 := by subst hz2; exact (Fr.refl _ _).setCell (by simp) _
        have HP2 := Lib.hid ((PT.ob ..).fr HP1.out hfz (fun x hx hy => by have : x = gH := (by simpa using hy); subst this; exact HP1.out.out HH.out (by decide) (by decide) hx))
        have HF2 : Hid (Fr [] w3 z2) := HF1.out.trans hfz (fun x hx => .inr (by have : x = gH := (by simpa using hx); subst this; exact HGH.out))
        rw [← hz2]
        clear hz2 hfz c0 f0
        have hgH := HH2.out.lt
        have v0 : z2.cell? ⟨gV, 0, none⟩ = some (.int .i64 v.eden) := HV2.out.cell 0
        have v1 : z2.cell? ⟨gV, 1, none⟩ = some (.int .i64 v.young) := HV2.out.cell 1
        have v2 : z2.cell? ⟨gV, 2, none⟩ = some (.int .i64 v.ten) := HV2.out.cell 2
        have v3 : z2.cell? ⟨gV, 3, none⟩ = some (.int .i64 v.room) := HV2.out.cell 3
        go_wp2_with fail
        refine (sure_any v _ (HST.out.sure (by decide))).mono ?_
        rintro e z3 ⟨rfl, hf⟩
        have HF := Lib.hid hf
        clear hf v0 v1 v2 v3
        go_wp2_with fail
        go_quiet (fail)
        go_wp2_with fail
        go_roundw
        case rel => exact ⟨k + 1, false, by omega, rfl, by go_num, s', l', bump h 3, cyc', (PT.ob ..).fr HP2.out (HF.out.drewN _) (by simp [Dis]), HNX.out, (HH2.out.fr HF.out (by simp)).drewN _, (HF2.out.trans HF.out (by simp)).drewN _, HN1.out, HGH.out⟩
        case measure => simp [intOf]; omega
      · have c0 : z1.cell? ⟨gH, 4, none⟩ = some (.int .i64 (h 4)) := HH.out.cell 4
        have f0 := HH.out.free 4
        have hn0 : 0 ≤ h 4 := (HNN.out 4).1
        have hn1 : h 4 ≤ 12 := by have := (HNN.out 4).2; omega
        have k5 : (k : Int) < 5 := by have := HST.out.five (by decide); omega
        have d5 : decide ((5 : Int) ≤ (k : Int)) = false := by simp; omega
        obtain rfl : ov = false := by cases ov with | false => rfl | true => exact absurd (HST.out.fin rfl) (by decide)
        go_upto_region 19 with fail
        obtain ⟨z2, hz2⟩ : ∃ z2, z2 = z1.setCell ⟨gH, 4, none⟩ (.int .i64 (h 4 + 1)) := ⟨_, rfl⟩
        have HH2 : Hid (Bk z2 gH 45 (hadA (bump h 4))) := by subst hz2; exact HH.out.put 4 _
        have HV2 : Hid (Bk z2 gV 40 #[.int .i64 v.eden, .int .i64 v.young, .int .i64 v.ten, .int .i64 v.room]) := by subst hz2; exact HV.out.far (by simp; exact HV.out.ne HH.out (by decide)) _
        have hfz : Fr [gH] z1 z2 := by subst hz2; exact (Fr.refl _ _).setCell (by simp) _
        have HP2 := Lib.hid ((PT.ob ..).fr HP1.out hfz (fun x hx hy => by have : x = gH := (by simpa using hy); subst this; exact HP1.out.out HH.out (by decide) (by decide) hx))
        have HF2 : Hid (Fr [] w3 z2) := HF1.out.trans hfz (fun x hx => .inr (by have : x = gH := (by simpa using hx); subst this; exact HGH.out))
        rw [← hz2]
        clear hz2 hfz c0 f0
        have hgH := HH2.out.lt
        have v0 : z2.cell? ⟨gV, 0, none⟩ = some (.int .i64 v.eden) := HV2.out.cell 0
        have v1 : z2.cell? ⟨gV, 1, none⟩ = some (.int .i64 v.young) := HV2.out.cell 1
        have v2 : z2.cell? ⟨gV, 2, none⟩ = some (.int .i64 v.ten) := HV2.out.cell 2
        have v3 : z2.cell? ⟨gV, 3, none⟩ = some (.int .i64 v.room) := HV2.out.cell 3
        go_wp2_with fail
        refine (sure_any v _ (HST.out.sure (by decide))).mono ?_
        rintro e z3 ⟨rfl, hf⟩
        have HF := Lib.hid hf
        clear hf v0 v1 v2 v3
        go_wp2_with fail
        go_quiet (fail)
        go_wp2_with fail
        go_roundw
        case rel => exact ⟨k + 1, false, by omega, rfl, by go_num, s', l', bump h 4, cyc', (PT.ob ..).fr HP2.out (HF.out.drewN _) (by simp [Dis]), HNX.out, (HH2.out.fr HF.out (by simp)).drewN _, (HF2.out.trans HF.out (by simp)).drewN _, HN1.out, HGH.out⟩
        case measure => simp [intOf]; omega
      · have c0 : z1.cell? ⟨gH, 5, none⟩ = some (.int .i64 (h 5)) := HH.out.cell 5
        have f0 := HH.out.free 5
        have hn0 : 0 ≤ h 5 := (HNN.out 5).1
        have hn1 : h 5 ≤ 12 := by have := (HNN.out 5).2; omega
        have k5 : (k : Int) < 5 := by have := HST.out.five (by decide); omega
        have d5 : decide ((5 : Int) ≤ (k : Int)) = false := by simp; omega
        obtain rfl : ov = false := by cases ov with | false => rfl | true => exact absurd (HST.out.fin rfl) (by decide)
        go_upto_region 19 with fail
        obtain ⟨z2, hz2⟩ : ∃ z2, z2 = z1.setCell ⟨gH, 5, none⟩ (.int .i64 (h 5 + 1)) := ⟨_, rfl⟩
        have HH2 : Hid (Bk z2 gH 45 (hadA (bump h 5))) := by subst hz2; exact HH.out.put 5 _
        have HV2 : Hid (Bk z2 gV 40 #[.int .i64 v.eden, .int .i64 v.young, .int .i64 v.ten, .int .i64 v.room]) := by subst hz2; exact HV.out.far (by simp; exact HV.out.ne HH.out (by decide)) _
        have hfz : Fr [gH] z1 z2 := by subst hz2; exact (Fr.refl _ _).setCell (by simp) _
        have HP2 := Lib.hid ((PT.ob ..).fr HP1.out hfz (fun x hx hy => by have : x = gH := (by simpa using hy); subst this; exact HP1.out.out HH.out (by decide) (by decide) hx))
        have HF2 : Hid (Fr [] w3 z2) := HF1.out.trans hfz (fun x hx => .inr (by have : x = gH := (by simpa using hx); subst this; exact HGH.out))
        rw [← hz2]
        clear hz2 hfz c0 f0
        have hgH := HH2.out.lt
        go_wp2_with fail
        go_quiet (fail)
        go_wp2_with fail
        go_roundw
        case rel => exact ⟨k + 1, false, by omega, rfl, by go_num, s', l', bump h 5, cyc', (PT.ob ..).fr HP2.out ((Fr.refl [] z2).drewN _) (by simp [Dis]), HNX.out, HH2.out.drewN _, HF2.out.drewN _, HN1.out, HGH.out⟩
        case measure => simp [intOf]; omega
      · have c0 : z1.cell? ⟨gH, 6, none⟩ = some (.int .i64 (h 6)) := HH.out.cell 6
        have f0 := HH.out.free 6
        have hn0 : 0 ≤ h 6 := (HNN.out 6).1
        have hn1 : h 6 ≤ 12 := by have := (HNN.out 6).2; omega
        have k5 : (k : Int) < 5 := by have := HST.out.five (by decide); omega
        have d5 : decide ((5 : Int) ≤ (k : Int)) = false := by simp; omega
        obtain rfl : ov = false := by cases ov with | false => rfl | true => exact absurd (HST.out.fin rfl) (by decide)
        go_upto_region 19 with fail
        obtain ⟨z2, hz2⟩ : ∃ z2, z2 = z1.setCell ⟨gH, 6, none⟩ (.int .i64 (h 6 + 1)) := ⟨_, rfl⟩
        have HH2 : Hid (Bk z2 gH 45 (hadA (bump h 6))) := by subst hz2; exact HH.out.put 6 _
        have HV2 : Hid (Bk z2 gV 40 #[.int .i64 v.eden, .int .i64 v.young, .int .i64 v.ten, .int .i64 v.room]) := by subst hz2; exact HV.out.far (by simp; exact HV.out.ne HH.out (by decide)) _
        have hfz : Fr [gH] z1 z2 := by subst hz2; exact (Fr.refl _ _).setCell (by simp) _
        have HP2 := Lib.hid ((PT.ob ..).fr HP1.out hfz (fun x hx hy => by have : x = gH := (by simpa using hy); subst this; exact HP1.out.out HH.out (by decide) (by decide) hx))
        have HF2 : Hid (Fr [] w3 z2) := HF1.out.trans hfz (fun x hx => .inr (by have : x = gH := (by simpa using hx); subst this; exact HGH.out))
        rw [← hz2]
        clear hz2 hfz c0 f0
        have hgH := HH2.out.lt
        have c5 : z2.cell? ⟨gH, 5, none⟩ = some (.int .i64 1) := by
          rw [HH2.out.cell 5]
          show some (Value.int .i64 (bump h 6 5)) = _
          rw [bump_ne (by decide), HE5.out, HST.out.fail rfl]
          rfl
        go_wp2_with fail
        go_quiet (fail)
        go_wp2_with fail
        go_roundw
        case rel => exact ⟨k + 1, false, by omega, rfl, by go_num, s', l', bump h 6, cyc', (PT.ob ..).fr HP2.out ((Fr.refl [] z2).drewN _) (by simp [Dis]), HNX.out, HH2.out.drewN _, HF2.out.drewN _, HN1.out, HGH.out⟩
        case measure => simp [intOf]; omega
      · rcases Bool.eq_false_or_eq_true ov with hov | hov
        · have c0 : z1.cell? ⟨gH, 7, none⟩ = some (.int .i64 (h 7)) := HH.out.cell 7
          have f0 := HH.out.free 7
          have hn0 : 0 ≤ h 7 := (HNN.out 7).1
          have hn1 : h 7 ≤ 12 := by have := (HNN.out 7).2; omega
          obtain rfl : ov = true := hov
          rcases Bool.eq_false_or_eq_true (decide ((5 : Int) ≤ (k : Int))) with d5 | d5
          · skip
            go_upto_region 19 with fail
            obtain ⟨z2, hz2⟩ : ∃ z2, z2 = z1.setCell ⟨gH, 7, none⟩ (.int .i64 (h 7 + 1)) := ⟨_, rfl⟩
            have HH2 : Hid (Bk z2 gH 45 (hadA (bump h 7))) := by subst hz2; exact HH.out.put 7 _
            have HV2 : Hid (Bk z2 gV 40 #[.int .i64 v.eden, .int .i64 v.young, .int .i64 v.ten, .int .i64 v.room]) := by subst hz2; exact HV.out.far (by simp; exact HV.out.ne HH.out (by decide)) _
            have hfz : Fr [gH] z1 z2 := by subst hz2; exact (Fr.refl _ _).setCell (by simp) _
            have HP2 := Lib.hid ((PT.ob ..).fr HP1.out hfz (fun x hx hy => by have : x = gH := (by simpa using hy); subst this; exact HP1.out.out HH.out (by decide) (by decide) hx))
            have HF2 : Hid (Fr [] w3 z2) := HF1.out.trans hfz (fun x hx => .inr (by have : x = gH := (by simpa using hx); subst this; exact HGH.out))
            rw [← hz2]
            clear hz2 hfz c0 f0
            have hgH := HH2.out.lt
            go_wp2_with fail
            go_quiet (fail)
            go_wp2_with fail
            go_roundw
            case rel => exact ⟨k + 1, true, by omega, rfl, by go_num, s', l', bump h 7, cyc', (PT.ob ..).fr HP2.out ((Fr.refl [] z2).drewN _) (by simp [Dis]), HNX.out, HH2.out.drewN _, HF2.out.drewN _, HN1.out, HGH.out⟩
            case measure => simp [intOf]; omega
          · skip
            go_upto_region 19 with fail
            obtain ⟨z2, hz2⟩ : ∃ z2, z2 = z1.setCell ⟨gH, 7, none⟩ (.int .i64 (h 7 + 1)) := ⟨_, rfl⟩
            have HH2 : Hid (Bk z2 gH 45 (hadA (bump h 7))) := by subst hz2; exact HH.out.put 7 _
            have HV2 : Hid (Bk z2 gV 40 #[.int .i64 v.eden, .int .i64 v.young, .int .i64 v.ten, .int .i64 v.room]) := by subst hz2; exact HV.out.far (by simp; exact HV.out.ne HH.out (by decide)) _
            have hfz : Fr [gH] z1 z2 := by subst hz2; exact (Fr.refl _ _).setCell (by simp) _
            have HP2 := Lib.hid ((PT.ob ..).fr HP1.out hfz (fun x hx hy => by have : x = gH := (by simpa using hy); subst this; exact HP1.out.out HH.out (by decide) (by decide) hx))
            have HF2 : Hid (Fr [] w3 z2) := HF1.out.trans hfz (fun x hx => .inr (by have : x = gH := (by simpa using hx); subst this; exact HGH.out))
            rw [← hz2]
            clear hz2 hfz c0 f0
            have hgH := HH2.out.lt
            go_wp2_with fail
            go_quiet (fail)
            go_wp2_with fail
            go_roundw
            case rel => exact ⟨k + 1, true, by omega, rfl, by go_num, s', l', bump h 7, cyc', (PT.ob ..).fr HP2.out ((Fr.refl [] z2).drewN _) (by simp [Dis]), HNX.out, HH2.out.drewN _, HF2.out.drewN _, HN1.out, HGH.out⟩
            case measure => simp [intOf]; omega
        · rcases Bool.eq_false_or_eq_true s.ma with hma | hma
          · have c0 : z1.cell? ⟨gH, 7, none⟩ = some (.int .i64 (h 7)) := HH.out.cell 7
            have f0 := HH.out.free 7
            have hn0 : 0 ≤ h 7 := (HNN.out 7).1
            have hn1 : h 7 ≤ 12 := by have := (HNN.out 7).2; omega
            obtain rfl : ov = false := hov
            rcases Bool.eq_false_or_eq_true (decide ((5 : Int) ≤ (k : Int))) with d5 | d5
            · skip
              go_upto_region 19 with fail
              obtain ⟨z2, hz2⟩ : ∃ z2, z2 = z1.setCell ⟨gH, 7, none⟩ (.int .i64 (h 7 + 1)) := ⟨_, rfl⟩
              have HH2 : Hid (Bk z2 gH 45 (hadA (bump h 7))) := by subst hz2; exact HH.out.put 7 _
              have HV2 : Hid (Bk z2 gV 40 #[.int .i64 v.eden, .int .i64 v.young, .int .i64 v.ten, .int .i64 v.room]) := by subst hz2; exact HV.out.far (by simp; exact HV.out.ne HH.out (by decide)) _
              have hfz : Fr [gH] z1 z2 := by subst hz2; exact (Fr.refl _ _).setCell (by simp) _
              have HP2 := Lib.hid ((PT.ob ..).fr HP1.out hfz (fun x hx hy => by have : x = gH := (by simpa using hy); subst this; exact HP1.out.out HH.out (by decide) (by decide) hx))
              have HF2 : Hid (Fr [] w3 z2) := HF1.out.trans hfz (fun x hx => .inr (by have : x = gH := (by simpa using hx); subst this; exact HGH.out))
              rw [← hz2]
              clear hz2 hfz c0 f0
              have hgH := HH2.out.lt
              have c5 : z2.cell? ⟨gH, 5, none⟩ = some (.int .i64 1) := by
                rw [HH2.out.cell 5]
                show some (Value.int .i64 (bump h 7 5)) = _
                rw [bump_ne (by decide), HE5.out, hma]
                rfl
              go_wp2_with fail
              go_quiet (fail)
              go_wp2_with fail
              go_roundw
              case rel => exact ⟨k + 1, true, by omega, rfl, by go_num, s', l', bump h 7, cyc', (PT.ob ..).fr HP2.out ((Fr.refl [] z2).drewN _) (by simp [Dis]), HNX.out, HH2.out.drewN _, HF2.out.drewN _, HN1.out, HGH.out⟩
              case measure => simp [intOf]; omega
            · skip
              go_upto_region 19 with fail
              obtain ⟨z2, hz2⟩ : ∃ z2, z2 = z1.setCell ⟨gH, 7, none⟩ (.int .i64 (h 7 + 1)) := ⟨_, rfl⟩
              have HH2 : Hid (Bk z2 gH 45 (hadA (bump h 7))) := by subst hz2; exact HH.out.put 7 _
              have HV2 : Hid (Bk z2 gV 40 #[.int .i64 v.eden, .int .i64 v.young, .int .i64 v.ten, .int .i64 v.room]) := by subst hz2; exact HV.out.far (by simp; exact HV.out.ne HH.out (by decide)) _
              have hfz : Fr [gH] z1 z2 := by subst hz2; exact (Fr.refl _ _).setCell (by simp) _
              have HP2 := Lib.hid ((PT.ob ..).fr HP1.out hfz (fun x hx hy => by have : x = gH := (by simpa using hy); subst this; exact HP1.out.out HH.out (by decide) (by decide) hx))
              have HF2 : Hid (Fr [] w3 z2) := HF1.out.trans hfz (fun x hx => .inr (by have : x = gH := (by simpa using hx); subst this; exact HGH.out))
              rw [← hz2]
              clear hz2 hfz c0 f0
              have hgH := HH2.out.lt
              have c5 : z2.cell? ⟨gH, 5, none⟩ = some (.int .i64 1) := by
                rw [HH2.out.cell 5]
                show some (Value.int .i64 (bump h 7 5)) = _
                rw [bump_ne (by decide), HE5.out, hma]
                rfl
              go_wp2_with fail
              go_quiet (fail)
              go_wp2_with fail
              go_roundw
              case rel => exact ⟨k + 1, true, by omega, rfl, by go_num, s', l', bump h 7, cyc', (PT.ob ..).fr HP2.out ((Fr.refl [] z2).drewN _) (by simp [Dis]), HNX.out, HH2.out.drewN _, HF2.out.drewN _, HN1.out, HGH.out⟩
              case measure => simp [intOf]; omega
          · have c0 : z1.cell? ⟨gH, 7, none⟩ = some (.int .i64 (h 7)) := HH.out.cell 7
            have f0 := HH.out.free 7
            have hn0 : 0 ≤ h 7 := (HNN.out 7).1
            have hn1 : h 7 ≤ 12 := by have := (HNN.out 7).2; omega
            obtain rfl : ov = false := hov
            rcases Bool.eq_false_or_eq_true (decide ((5 : Int) ≤ (k : Int))) with d5 | d5
            · skip
              go_upto_region 19 with fail
              obtain ⟨z2, hz2⟩ : ∃ z2, z2 = z1.setCell ⟨gH, 7, none⟩ (.int .i64 (h 7 + 1)) := ⟨_, rfl⟩
              have HH2 : Hid (Bk z2 gH 45 (hadA (bump h 7))) := by subst hz2; exact HH.out.put 7 _
              have HV2 : Hid (Bk z2 gV 40 #[.int .i64 v.eden, .int .i64 v.young, .int .i64 v.ten, .int .i64 v.room]) := by subst hz2; exact HV.out.far (by simp; exact HV.out.ne HH.out (by decide)) _
              have hfz : Fr [gH] z1 z2 := by subst hz2; exact (Fr.refl _ _).setCell (by simp) _
              have HP2 := Lib.hid ((PT.ob ..).fr HP1.out hfz (fun x hx hy => by have : x = gH := (by simpa using hy); subst this; exact HP1.out.out HH.out (by decide) (by decide) hx))
              have HF2 : Hid (Fr [] w3 z2) := HF1.out.trans hfz (fun x hx => .inr (by have : x = gH := (by simpa using hx); subst this; exact HGH.out))
              rw [← hz2]
              clear hz2 hfz c0 f0
              have hgH := HH2.out.lt
              have c5 : z2.cell? ⟨gH, 5, none⟩ = some (.int .i64 0) := by
                rw [HH2.out.cell 5]
                show some (Value.int .i64 (bump h 7 5)) = _
                rw [bump_ne (by decide), HE5.out, hma]
                rfl
              have HA2 := Lib.hid (HM.out.fr HF2.out (by simp))
              have hcl : (clipV v).ten ≤ limitOf c base := HST.out.close rfl rfl hma
              have hl0 := (limitOf_bound c base).1
              have hcl0 : decide (limitOf c base < 0) = false := by simpa using hl0
              have HKEEP : Hid (∀ {W : World}, Fr [] z2.drew W → W.cell? ⟨gH, 5, none⟩ = some (.int .i64 0) ∧ W.cell? ⟨gV, 2, none⟩ = some (.int .i64 v.ten) ∧ W.cell? ⟨w.heap.size, 0, none⟩ = some (.int .i64 (c 0)) ∧ W.cell? ⟨w.heap.size, 1, none⟩ = some (.int .i64 (c 1)) ∧ W.cell? ⟨w.heap.size, 2, none⟩ = some (.int .i64 (c 2)) ∧ W.cell? ⟨w.heap.size, 3, none⟩ = some (.int .i64 (c 3)) ∧ W.cell? ⟨w.heap.size, 4, none⟩ = some (.int .i64 (c 4)) ∧ W.cell? ⟨w.heap.size, 5, none⟩ = some (.int .i64 (c 5)) ∧ W.cell? ⟨w.heap.size, 6, none⟩ = some (.int .i64 (c 6)) ∧ W.cell? ⟨w.heap.size, 7, none⟩ = some (.int .i64 (c 7)) ∧ W.cell? ⟨w.heap.size, 8, none⟩ = some (.int .i64 (c 8)) ∧ W.cell? ⟨w.heap.size, 9, none⟩ = some (.int .i64 (c 9)) ∧ W.cell? ⟨w.heap.size, 10, none⟩ = some (.int .i64 (c 10)) ∧ W.cell? ⟨w.heap.size, 11, none⟩ = some (.int .i64 (c 11)) ∧ W.cell? ⟨w.heap.size, 12, none⟩ = some (.int .i64 (c 12)) ∧ W.cell? ⟨w.heap.size, 13, none⟩ = some (.int .i64 (c 13)) ∧ W.cell? ⟨w.heap.size, 14, none⟩ = some (.int .i64 base)) := fun {W} hf => by
                have hf' : Fr [] z2 W := (Fr.refl [] z2).drew.trans hf (by simp)
                have k1 := HA2.out.fr hf' (by simp)
                exact ⟨by have := (HH2.out.fr hf' (by simp)).cell 5; rw [HH2.out.cell 5] at c5; rw [this, ← c5], (HV2.out.fr hf' (by simp)).cell 2, k1.cell 0, k1.cell 1, k1.cell 2, k1.cell 3, k1.cell 4, k1.cell 5, k1.cell 6, k1.cell 7, k1.cell 8, k1.cell 9, k1.cell 10, k1.cell 11, k1.cell 12, k1.cell 13, k1.cell 14⟩
              clear c5
              go_upto_region 23 with fail
              by_cases ht : v.ten < 0
              · go_region_held3 (fun W => W.cell? ⟨gH, 5, none⟩ = some (.int .i64 0) ∧ W.cell? ⟨gV, 2, none⟩ = some (.int .i64 v.ten) ∧ W.cell? ⟨w.heap.size, 0, none⟩ = some (.int .i64 (c 0)) ∧ W.cell? ⟨w.heap.size, 1, none⟩ = some (.int .i64 (c 1)) ∧ W.cell? ⟨w.heap.size, 2, none⟩ = some (.int .i64 (c 2)) ∧ W.cell? ⟨w.heap.size, 3, none⟩ = some (.int .i64 (c 3)) ∧ W.cell? ⟨w.heap.size, 4, none⟩ = some (.int .i64 (c 4)) ∧ W.cell? ⟨w.heap.size, 5, none⟩ = some (.int .i64 (c 5)) ∧ W.cell? ⟨w.heap.size, 6, none⟩ = some (.int .i64 (c 6)) ∧ W.cell? ⟨w.heap.size, 7, none⟩ = some (.int .i64 (c 7)) ∧ W.cell? ⟨w.heap.size, 8, none⟩ = some (.int .i64 (c 8)) ∧ W.cell? ⟨w.heap.size, 9, none⟩ = some (.int .i64 (c 9)) ∧ W.cell? ⟨w.heap.size, 10, none⟩ = some (.int .i64 (c 10)) ∧ W.cell? ⟨w.heap.size, 11, none⟩ = some (.int .i64 (c 11)) ∧ W.cell? ⟨w.heap.size, 12, none⟩ = some (.int .i64 (c 12)) ∧ W.cell? ⟨w.heap.size, 13, none⟩ = some (.int .i64 (c 13)) ∧ W.cell? ⟨w.heap.size, 14, none⟩ = some (.int .i64 base)) ((first | exact HKEEP.out (by assumption) | exact HKEEP.out (Fr.refl _ _) | exact HKEEP.out ((Fr.refl _ _).alloc _))) ((first | (go_at_call 7; refine (limit_any c base _).mono ?_; rintro e z4 ⟨rfl, hf⟩)))
                all_goals (have HF : Hid (Fr [] z2 z4) := (Fr.refl [] z2).drew.trans hf (by simp))
                all_goals (clear hf)
                all_goals (try go_wp2_with fail)
                all_goals first | (refine ⟨⟨k + 1, true, by omega, rfl, by go_num, s', l', bump h 7, cyc', (PT.ob ..).fr HP2.out HF.out (by simp [Dis]), HNX.out, HH2.out.fr HF.out (by simp), HF2.out.trans HF.out (by simp), HN1.out, HGH.out⟩, ?_⟩; simp [intOf]; omega) | (exfalso; omega)
              · have hcl2 : v.ten ≤ limitOf c base := by simpa [clipV, clip, ht] using hcl
                have hcl1 : decide (limitOf c base < v.ten) = false := by simpa using hcl2
                go_region_held3 (fun W => W.cell? ⟨gH, 5, none⟩ = some (.int .i64 0) ∧ W.cell? ⟨gV, 2, none⟩ = some (.int .i64 v.ten) ∧ W.cell? ⟨w.heap.size, 0, none⟩ = some (.int .i64 (c 0)) ∧ W.cell? ⟨w.heap.size, 1, none⟩ = some (.int .i64 (c 1)) ∧ W.cell? ⟨w.heap.size, 2, none⟩ = some (.int .i64 (c 2)) ∧ W.cell? ⟨w.heap.size, 3, none⟩ = some (.int .i64 (c 3)) ∧ W.cell? ⟨w.heap.size, 4, none⟩ = some (.int .i64 (c 4)) ∧ W.cell? ⟨w.heap.size, 5, none⟩ = some (.int .i64 (c 5)) ∧ W.cell? ⟨w.heap.size, 6, none⟩ = some (.int .i64 (c 6)) ∧ W.cell? ⟨w.heap.size, 7, none⟩ = some (.int .i64 (c 7)) ∧ W.cell? ⟨w.heap.size, 8, none⟩ = some (.int .i64 (c 8)) ∧ W.cell? ⟨w.heap.size, 9, none⟩ = some (.int .i64 (c 9)) ∧ W.cell? ⟨w.heap.size, 10, none⟩ = some (.int .i64 (c 10)) ∧ W.cell? ⟨w.heap.size, 11, none⟩ = some (.int .i64 (c 11)) ∧ W.cell? ⟨w.heap.size, 12, none⟩ = some (.int .i64 (c 12)) ∧ W.cell? ⟨w.heap.size, 13, none⟩ = some (.int .i64 (c 13)) ∧ W.cell? ⟨w.heap.size, 14, none⟩ = some (.int .i64 base)) ((first | exact HKEEP.out (by assumption) | exact HKEEP.out (Fr.refl _ _) | exact HKEEP.out ((Fr.refl _ _).alloc _))) ((first | (go_at_call 7; refine (limit_any c base _).mono ?_; rintro e z4 ⟨rfl, hf⟩)))
                all_goals (have HF : Hid (Fr [] z2 z4) := (Fr.refl [] z2).drew.trans hf (by simp))
                all_goals (clear hf)
                all_goals (try go_wp2_with fail)
                all_goals first | (refine ⟨⟨k + 1, true, by omega, rfl, by go_num, s', l', bump h 7, cyc', (PT.ob ..).fr HP2.out HF.out (by simp [Dis]), HNX.out, HH2.out.fr HF.out (by simp), HF2.out.trans HF.out (by simp), HN1.out, HGH.out⟩, ?_⟩; simp [intOf]; omega) | (exfalso; omega)
            · skip
              go_upto_region 19 with fail
              obtain ⟨z2, hz2⟩ : ∃ z2, z2 = z1.setCell ⟨gH, 7, none⟩ (.int .i64 (h 7 + 1)) := ⟨_, rfl⟩
              have HH2 : Hid (Bk z2 gH 45 (hadA (bump h 7))) := by subst hz2; exact HH.out.put 7 _
              have HV2 : Hid (Bk z2 gV 40 #[.int .i64 v.eden, .int .i64 v.young, .int .i64 v.ten, .int .i64 v.room]) := by subst hz2; exact HV.out.far (by simp; exact HV.out.ne HH.out (by decide)) _
              have hfz : Fr [gH] z1 z2 := by subst hz2; exact (Fr.refl _ _).setCell (by simp) _
              have HP2 := Lib.hid ((PT.ob ..).fr HP1.out hfz (fun x hx hy => by have : x = gH := (by simpa using hy); subst this; exact HP1.out.out HH.out (by decide) (by decide) hx))
              have HF2 : Hid (Fr [] w3 z2) := HF1.out.trans hfz (fun x hx => .inr (by have : x = gH := (by simpa using hx); subst this; exact HGH.out))
              rw [← hz2]
              clear hz2 hfz c0 f0
              have hgH := HH2.out.lt
              have c5 : z2.cell? ⟨gH, 5, none⟩ = some (.int .i64 0) := by
                rw [HH2.out.cell 5]
                show some (Value.int .i64 (bump h 7 5)) = _
                rw [bump_ne (by decide), HE5.out, hma]
                rfl
              have HA2 := Lib.hid (HM.out.fr HF2.out (by simp))
              have hcl : (clipV v).ten ≤ limitOf c base := HST.out.close rfl rfl hma
              have hl0 := (limitOf_bound c base).1
              have hcl0 : decide (limitOf c base < 0) = false := by simpa using hl0
              have HKEEP : Hid (∀ {W : World}, Fr [] z2.drew W → W.cell? ⟨gH, 5, none⟩ = some (.int .i64 0) ∧ W.cell? ⟨gV, 2, none⟩ = some (.int .i64 v.ten) ∧ W.cell? ⟨w.heap.size, 0, none⟩ = some (.int .i64 (c 0)) ∧ W.cell? ⟨w.heap.size, 1, none⟩ = some (.int .i64 (c 1)) ∧ W.cell? ⟨w.heap.size, 2, none⟩ = some (.int .i64 (c 2)) ∧ W.cell? ⟨w.heap.size, 3, none⟩ = some (.int .i64 (c 3)) ∧ W.cell? ⟨w.heap.size, 4, none⟩ = some (.int .i64 (c 4)) ∧ W.cell? ⟨w.heap.size, 5, none⟩ = some (.int .i64 (c 5)) ∧ W.cell? ⟨w.heap.size, 6, none⟩ = some (.int .i64 (c 6)) ∧ W.cell? ⟨w.heap.size, 7, none⟩ = some (.int .i64 (c 7)) ∧ W.cell? ⟨w.heap.size, 8, none⟩ = some (.int .i64 (c 8)) ∧ W.cell? ⟨w.heap.size, 9, none⟩ = some (.int .i64 (c 9)) ∧ W.cell? ⟨w.heap.size, 10, none⟩ = some (.int .i64 (c 10)) ∧ W.cell? ⟨w.heap.size, 11, none⟩ = some (.int .i64 (c 11)) ∧ W.cell? ⟨w.heap.size, 12, none⟩ = some (.int .i64 (c 12)) ∧ W.cell? ⟨w.heap.size, 13, none⟩ = some (.int .i64 (c 13)) ∧ W.cell? ⟨w.heap.size, 14, none⟩ = some (.int .i64 base)) := fun {W} hf => by
                have hf' : Fr [] z2 W := (Fr.refl [] z2).drew.trans hf (by simp)
                have k1 := HA2.out.fr hf' (by simp)
                exact ⟨by have := (HH2.out.fr hf' (by simp)).cell 5; rw [HH2.out.cell 5] at c5; rw [this, ← c5], (HV2.out.fr hf' (by simp)).cell 2, k1.cell 0, k1.cell 1, k1.cell 2, k1.cell 3, k1.cell 4, k1.cell 5, k1.cell 6, k1.cell 7, k1.cell 8, k1.cell 9, k1.cell 10, k1.cell 11, k1.cell 12, k1.cell 13, k1.cell 14⟩
              clear c5
              go_upto_region 23 with fail
              by_cases ht : v.ten < 0
              · go_region_held3 (fun W => W.cell? ⟨gH, 5, none⟩ = some (.int .i64 0) ∧ W.cell? ⟨gV, 2, none⟩ = some (.int .i64 v.ten) ∧ W.cell? ⟨w.heap.size, 0, none⟩ = some (.int .i64 (c 0)) ∧ W.cell? ⟨w.heap.size, 1, none⟩ = some (.int .i64 (c 1)) ∧ W.cell? ⟨w.heap.size, 2, none⟩ = some (.int .i64 (c 2)) ∧ W.cell? ⟨w.heap.size, 3, none⟩ = some (.int .i64 (c 3)) ∧ W.cell? ⟨w.heap.size, 4, none⟩ = some (.int .i64 (c 4)) ∧ W.cell? ⟨w.heap.size, 5, none⟩ = some (.int .i64 (c 5)) ∧ W.cell? ⟨w.heap.size, 6, none⟩ = some (.int .i64 (c 6)) ∧ W.cell? ⟨w.heap.size, 7, none⟩ = some (.int .i64 (c 7)) ∧ W.cell? ⟨w.heap.size, 8, none⟩ = some (.int .i64 (c 8)) ∧ W.cell? ⟨w.heap.size, 9, none⟩ = some (.int .i64 (c 9)) ∧ W.cell? ⟨w.heap.size, 10, none⟩ = some (.int .i64 (c 10)) ∧ W.cell? ⟨w.heap.size, 11, none⟩ = some (.int .i64 (c 11)) ∧ W.cell? ⟨w.heap.size, 12, none⟩ = some (.int .i64 (c 12)) ∧ W.cell? ⟨w.heap.size, 13, none⟩ = some (.int .i64 (c 13)) ∧ W.cell? ⟨w.heap.size, 14, none⟩ = some (.int .i64 base)) ((first | exact HKEEP.out (by assumption) | exact HKEEP.out (Fr.refl _ _) | exact HKEEP.out ((Fr.refl _ _).alloc _))) ((first | (go_at_call 7; refine (limit_any c base _).mono ?_; rintro e z4 ⟨rfl, hf⟩)))
                all_goals (have HF : Hid (Fr [] z2 z4) := (Fr.refl [] z2).drew.trans hf (by simp))
                all_goals (clear hf)
                all_goals (try go_wp2_with fail)
                all_goals first | (refine ⟨⟨k + 1, true, by omega, rfl, by go_num, s', l', bump h 7, cyc', (PT.ob ..).fr HP2.out HF.out (by simp [Dis]), HNX.out, HH2.out.fr HF.out (by simp), HF2.out.trans HF.out (by simp), HN1.out, HGH.out⟩, ?_⟩; simp [intOf]; omega) | (exfalso; omega)
              · have hcl2 : v.ten ≤ limitOf c base := by simpa [clipV, clip, ht] using hcl
                have hcl1 : decide (limitOf c base < v.ten) = false := by simpa using hcl2
                go_region_held3 (fun W => W.cell? ⟨gH, 5, none⟩ = some (.int .i64 0) ∧ W.cell? ⟨gV, 2, none⟩ = some (.int .i64 v.ten) ∧ W.cell? ⟨w.heap.size, 0, none⟩ = some (.int .i64 (c 0)) ∧ W.cell? ⟨w.heap.size, 1, none⟩ = some (.int .i64 (c 1)) ∧ W.cell? ⟨w.heap.size, 2, none⟩ = some (.int .i64 (c 2)) ∧ W.cell? ⟨w.heap.size, 3, none⟩ = some (.int .i64 (c 3)) ∧ W.cell? ⟨w.heap.size, 4, none⟩ = some (.int .i64 (c 4)) ∧ W.cell? ⟨w.heap.size, 5, none⟩ = some (.int .i64 (c 5)) ∧ W.cell? ⟨w.heap.size, 6, none⟩ = some (.int .i64 (c 6)) ∧ W.cell? ⟨w.heap.size, 7, none⟩ = some (.int .i64 (c 7)) ∧ W.cell? ⟨w.heap.size, 8, none⟩ = some (.int .i64 (c 8)) ∧ W.cell? ⟨w.heap.size, 9, none⟩ = some (.int .i64 (c 9)) ∧ W.cell? ⟨w.heap.size, 10, none⟩ = some (.int .i64 (c 10)) ∧ W.cell? ⟨w.heap.size, 11, none⟩ = some (.int .i64 (c 11)) ∧ W.cell? ⟨w.heap.size, 12, none⟩ = some (.int .i64 (c 12)) ∧ W.cell? ⟨w.heap.size, 13, none⟩ = some (.int .i64 (c 13)) ∧ W.cell? ⟨w.heap.size, 14, none⟩ = some (.int .i64 base)) ((first | exact HKEEP.out (by assumption) | exact HKEEP.out (Fr.refl _ _) | exact HKEEP.out ((Fr.refl _ _).alloc _))) ((first | (go_at_call 7; refine (limit_any c base _).mono ?_; rintro e z4 ⟨rfl, hf⟩)))
                all_goals (have HF : Hid (Fr [] z2 z4) := (Fr.refl [] z2).drew.trans hf (by simp))
                all_goals (clear hf)
                all_goals (try go_wp2_with fail)
                all_goals first | (refine ⟨⟨k + 1, true, by omega, rfl, by go_num, s', l', bump h 7, cyc', (PT.ob ..).fr HP2.out HF.out (by simp [Dis]), HNX.out, HH2.out.fr HF.out (by simp), HF2.out.trans HF.out (by simp), HN1.out, HGH.out⟩, ?_⟩; simp [intOf]; omega) | (exfalso; omega)
    · have k1 : k = 12 := by omega
      subst k1
      obtain ⟨s, l, h, cyc, hP, hE, hH, hF, hN, hgH⟩ := HX1.out
      obtain ⟨hov, ⟨t3, t4, t5⟩, hsum, hlen⟩ := hE.done
      subst hov
      have HP := Lib.hid hP
      have HH := Lib.hid hH
      have HF := Lib.hid hF
      have HA2 := Lib.hid (HM.out.fr hF (by simp))
      have hnn := hE.nn
      have n1 := hnn 1
      have n2 := hnn 2
      have n3 := hnn 3
      have n4 := hnn 4
      have n5 := hnn 5
      have n6 := hnn 6
      have hlH := hH.lt
      clear hP hE hH hF hN hgH HX1 hnn
      have c1 : wr.cell? ⟨gH, 1, none⟩ = some (.int .i64 (h 1)) := HH.out.cell 1
      have c2 : wr.cell? ⟨gH, 2, none⟩ = some (.int .i64 (h 2)) := HH.out.cell 2
      have c3 : wr.cell? ⟨gH, 3, none⟩ = some (.int .i64 (h 3)) := HH.out.cell 3
      have c4 : wr.cell? ⟨gH, 4, none⟩ = some (.int .i64 (h 4)) := HH.out.cell 4
      have c5 : wr.cell? ⟨gH, 5, none⟩ = some (.int .i64 (h 5)) := HH.out.cell 5
      have c6 : wr.cell? ⟨gH, 6, none⟩ = some (.int .i64 (h 6)) := HH.out.cell 6
      have x15 : wr.cell? ⟨w.heap.size, 15, none⟩ = some (.int .i64 kind) := HA2.out.cell 15
      have hq : (((l.length : Int)) == h 3 + h 4 + h 5) = true := by simpa using hlen
      clear c1 c2 c6 c3 c4 c5 x15
      have HKEEP : Hid (∀ {W : World}, Fr [] wr.drew W → W.cell? ⟨gH, 3, none⟩ = some (.int .i64 (h 3)) ∧ W.cell? ⟨gH, 4, none⟩ = some (.int .i64 (h 4)) ∧ W.cell? ⟨gH, 5, none⟩ = some (.int .i64 (h 5))) := fun {W} hf => by
        have hf' : Fr [] wr W := (Fr.refl [] wr).drew.trans hf (by simp)
        have k1 := HH.out.fr hf' (by simp)
        exact ⟨k1.cell 3, k1.cell 4, k1.cell 5⟩
      have HPK : Hid (∀ {W : World}, Fr [] wr.drew W → PT W g c base (limitOf c base) words s l cyc) := fun {W} hf => (PT.ob ..).fr HP.out ((Fr.refl [] wr).drew.trans hf (by simp)) (by simp [Dis])
      have c1 : wr.cell? ⟨gH, 1, none⟩ = some (.int .i64 (h 1)) := HH.out.cell 1
      have c2 : wr.cell? ⟨gH, 2, none⟩ = some (.int .i64 (h 2)) := HH.out.cell 2
      have c6 : wr.cell? ⟨gH, 6, none⟩ = some (.int .i64 (h 6)) := HH.out.cell 6
      have x15 : wr.cell? ⟨w.heap.size, 15, none⟩ = some (.int .i64 kind) := HA2.out.cell 15
      have HQ := Lib.hid hq
      clear hq hlen HH HP
      by_cases hk : kind = 1
      · subst hk
        have hsb : (h 1 + h 2 + h 6 == 1) = true := by simpa using hsum
        clear hsum
        go_wp2_with fail
        clear c1 c2 c6 x15
        have hq := HQ.out
        have s34 : IntKind.i64.wrap (h 3 + h 4) = h 3 + h 4 := IntWalk.i64_in _ (by omega)
        have s345 : IntKind.i64.wrap (h 3 + h 4 + h 5) = h 3 + h 4 + h 5 := IntWalk.i64_in _ (by omega)
        go_region_held3 (fun W => W.cell? ⟨gH, 3, none⟩ = some (.int .i64 (h 3)) ∧ W.cell? ⟨gH, 4, none⟩ = some (.int .i64 (h 4)) ∧ W.cell? ⟨gH, 5, none⟩ = some (.int .i64 (h 5))) ((first | exact HKEEP.out (by assumption) | exact HKEEP.out (Fr.refl _ _) | exact HKEEP.out ((Fr.refl _ _).alloc _))) ((first | (go_at_call 17; refine (cycles_len g c base (limitOf c base) words s l cyc _ ?_).mono ?_; (first | exact HPK.out (Fr.refl _ _) | exact HPK.out (by assumption)); rintro e z4 ⟨A4, cap4, rfl, hf⟩)))

        all_goals (go_wp2_with fail; go_ret; exact ⟨rfl, HF3.out.trans (HF.out.trans ((Fr.refl [] wr).drew.trans (by assumption) (by simp)) (by simp)) (by simp)⟩)
      · have hsb : (h 1 + h 2 + h 6 == 0) = true := by simpa [hk] using hsum
        have hkb : (kind == 1) = false := by simpa using hk
        clear hsum hk
        go_wp2_with fail
        clear c1 c2 c6 x15
        have hq := HQ.out
        have s34 : IntKind.i64.wrap (h 3 + h 4) = h 3 + h 4 := IntWalk.i64_in _ (by omega)
        have s345 : IntKind.i64.wrap (h 3 + h 4 + h 5) = h 3 + h 4 + h 5 := IntWalk.i64_in _ (by omega)
        go_region_held3 (fun W => W.cell? ⟨gH, 3, none⟩ = some (.int .i64 (h 3)) ∧ W.cell? ⟨gH, 4, none⟩ = some (.int .i64 (h 4)) ∧ W.cell? ⟨gH, 5, none⟩ = some (.int .i64 (h 5))) ((first | exact HKEEP.out (by assumption) | exact HKEEP.out (Fr.refl _ _) | exact HKEEP.out ((Fr.refl _ _).alloc _))) ((first | (go_at_call 17; refine (cycles_len g c base (limitOf c base) words s l cyc _ ?_).mono ?_; (first | exact HPK.out (Fr.refl _ _) | exact HPK.out (by assumption)); rintro e z4 ⟨A4, cap4, rfl, hf⟩)))
        all_goals (go_wp2_with fail; go_ret; exact ⟨rfl, HF3.out.trans (HF.out.trans ((Fr.refl [] wr).drew.trans (by assumption) (by simp)) (by simp)) (by simp)⟩)
end Go.Proofs.Ytjphgedbejoeaaa
