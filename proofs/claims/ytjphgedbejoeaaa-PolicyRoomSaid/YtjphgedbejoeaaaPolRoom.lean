/-
  An allocation that fits does not fail: the statement's walk.
-/
import Derived.Test.YtjphgedbejoeaaaPolRf
import Derived.Test.YtjphgedbejoeaaaPol14
import Derived.Deep.Cut
import Derived.Deep.CutRange
import Derived.Deep.DeepCutAuto
import Derived.StillTailTactics
import Derived.Deep.RegionHeld3
namespace Go.Proofs.Ytjphgedbejoeaaa
open Go.RowKit Pol
set_option linter.unusedVariables false

theorem PT.outw {w : World} {g : Nat} {c : Nat → Int} {base limit words : Int} {s : St} {l : List Int} {cyc : Value} (P : PT w g c base limit words s l cyc) {b : Nat} {t : TypeId} {cs : Array Value} (hb : Bk w b t cs)
    (h1 : t ≠ 61) (h2 : t ≠ 3) : b ∉ g :: cyc.ownBlock.toList := by
  intro hx
  rcases List.mem_cons.1 hx with rfl | hx
  · exact hb.ne P.B h1 rfl
  · obtain ⟨cs', hb'⟩ := own_bk P.O (by simpa using hx)
    exact hb.ne hb' h2 rfl
theorem clip_of {n : Int} (h : 0 ≤ n) : clip n = n := by unfold clip; split <;> omega
theorem clipV_view {E T : Int} {x : Wd} (h : WOk E T x) : clipV (viewW E T x) = viewW E T x := by
  obtain ⟨h1, h2, h3, h4, h5, h6, h7, h8, h9⟩ := h
  unfold clipV viewW
  simp only
  rw [clip_of (by omega), clip_of (by omega), clip_of (by omega), clip_of (by omega)]
theorem step_small {words limit : Int} {s : St} {v : Vw} (h : (stepOf words limit s v).2 = .small) : s.ph = .small := by
  revert h
  unfold stepOf closeStep
  cases hph : s.ph <;> simp only [] <;> (repeat' split) <;> simp_all

/-- The turn and the memory, at the loop's head. -/
def RoomAt (W0 : World) (gW g : Nat) (c : Nat → Int) (base words L0 : Int) (k : Nat) (w : World) : Prop :=
  ∃ s l h cyc x, PT w g c base (limitOf c base) words s l cyc ∧ EInv 1 s l h k false ∧ RInv (c 0) (c 2) words L0 s x ∧ (s.ph = .small ∨ s.ph = .big ∨ s.ph = .closing) ∧ (s.ph = .small → words ≤ c 0) ∧
    Bk w gW 53 (worldA c x) ∧ Fr [] W0 w ∧ (∀ y ∈ g :: cyc.ownBlock.toList, W0.heap.size ≤ y)

theorem RoomAt.lt5 {W0 w : World} {gW g : Nat} {c : Nat → Int} {base words L0 : Int} {k : Nat} (h : RoomAt W0 gW g c base words L0 k w) : k < 5 := by
  obtain ⟨s, l, h, cyc, x, hP, hE, hR, hp, _⟩ := h
  have hnf : s.ph ≠ .fin := by rcases hp with h | h | h <;> rw [h] <;> simp
  have hc := hE.cnt hnf
  have hb : ∀ b, b2i b ≤ 1 := by intro b; cases b <;> simp [b2i]
  have hm := hb s.mi
  have ha := hb s.al
  have hM := hb s.ma
  have hsum : h 1 + h 2 + h 6 ≤ 1 := by
    by_cases hs : s.ph = .small ∨ s.ph = .big
    · have := (hE.pl hs).2; omega
    · have := hE.pl2 hs; simp at this; omega
  omega

theorem room_end {c : Nat → Int} (hv : validB c = true) {base words : Int} {s : St} {v : Vw} (hp : s.ph = .small ∨ s.ph = .big ∨ s.ph = .closing) (h7 : (stepOf words (limitOf c base) s v).1 = 7) (h0 : 0 ≤ v.ten) (h1 : v.ten ≤ 65536) :
    v.ten ≤ limitOf c (baseAt base (after words (limitOf c base) s v) v) := by
  have hma : (after words (limitOf c base) s v).ma = s.ma := by
    show (s.ma || decide ((stepOf words (limitOf c base) s v).1 = 5)) = s.ma
    rw [h7]; simp
  unfold baseAt
  rw [hma]
  cases hm : s.ma with
  | true =>
    simp only [if_true]
    rw [clip_of h0]
    exact limit_up hv h0 h1
  | false =>
    simp only [Bool.false_eq_true, if_false]
    exact step_close words (limitOf c base) s v (by rcases hp with h | h | h <;> rw [h] <;> simp) hm h7


set_option maxRecDepth 100000 in
set_option maxHeartbeats 8000000 in
theorem room_any (c : Nat → Int) (yl yd tl td base words sv pr : Int) (w : World) (hw : words ≤ 9223372036854775807) :
    Calls Try.prog 6 #[.agg (memA c yl yd tl td base words sv pr)] w fun e w' => e = .returned (.bool true) ∧ Fr [] w w' := by
  go_enter Try.func6, Try.ntmps6
  go_wp2_with fail
  refine (known_any _).mono ?_
  rintro e w3 ⟨rfl, hf⟩
  have HM := Lib.hid ((Bk.new w 49 (memA c yl yd tl td base words sv pr)).fr hf (by simp))
  have HF3 : Hid (Fr [] w w3) := ((Fr.refl [] w).alloc _).trans hf (by simp)
  clear hf
  have HA := Lib.hid HM.out
  have x18 : w3.cell? ⟨w.heap.size, 18, none⟩ = some (.int .i64 base) := HA.out.cell 18
  have x19 : w3.cell? ⟨w.heap.size, 19, none⟩ = some (.int .i64 words) := HA.out.cell 19
  go_wp2_with (refine wpList_load_mid rfl 23 _ rfl w.heap.size 0 rfl (cfgA c).toList _ (mem_range HA.out) Try.underlying23 rfl (by kernel_rfl) ?_)
  refine (begin_any c base 1 words _ hw).mono ?_
  rintro e z4 ⟨ps, rfl, hf, hs⟩
  have HS := Lib.hid hs
  have HA := Lib.hid (HA.out.fr hf (by simp))
  have HF4 : Hid (Fr [] w3 z4) := hf
  have HG4 : Hid (Fr [] w3 z4) := hf
  clear hs hf x18 x19
  have x18 : z4.cell? ⟨w.heap.size, 18, none⟩ = some (.int .i64 base) := HA.out.cell 18
  have x19 : z4.cell? ⟨w.heap.size, 19, none⟩ = some (.int .i64 words) := HA.out.cell 19
  go_wp2_with (refine wpList_load_mid rfl 23 _ rfl w.heap.size 0 rfl (cfgA c).toList _ (mem_range HA.out) Try.underlying23 rfl (by kernel_rfl) ?_)
  refine (rbegin_any c base 1 words _ hw).mono ?_
  rintro e z5 ⟨pv, rfl, hf, hs⟩
  have HSv := Lib.hid hs
  have HA := Lib.hid (HA.out.fr hf (by simp))
  have HF5 : Hid (Fr [] w3 z5) := HF4.out.trans hf (by simp)
  have HG5 : Hid (Fr [] z4 z5) := hf
  clear hs hf x18 x19
  go_upto_region 5 with fail
  obtain ⟨e1, he1⟩ : ∃ e1, beginErr c base 1 words = e1 := ⟨_, rfl⟩
  rw [he1] at HS HSv ⊢
  have HE1 := Lib.hid he1
  clear he1
  rcases HS.out with ⟨h1, rfl⟩ | ⟨h1, g, rfl, hg, hP⟩
  · rcases HSv.out with ⟨_, rfl⟩ | ⟨h3, _⟩
    · have h1' : (e1 != 0) = true := by simpa using h1
      clear h1
      go_wp2_with fail
      go_ret
      exact ⟨rfl, HF3.out.trans HF5.out (by simp)⟩
    · exact absurd h3 h1
  rcases HSv.out with ⟨h3, _⟩ | ⟨-, g3, rfl, hg3, hR3⟩
  · exact absurd h1 h3
  subst h1
  have HV : Hid (validB c = true) := (begin_none HE1.out).1
  have hwords : 2 ≤ words := (begin_none HE1.out).2.2.2 rfl
  have HP : Hid (PT z5 g c base (limitOf c base) words (st0 (phOf c 1 words)) [] (.slice none 0 0)) := (PT.ob ..).fr hP HG5.out (by simp [Dis])
  have HG : Hid (w3.heap.size ≤ g) := hg
  clear hg hP hg3 hR3 HS HSv HG4 HG5
  have HO := Lib.hid (okC HV.out)
  obtain ⟨e00, e01⟩ := HO.out.e0
  obtain ⟨e10, e11⟩ := HO.out.e1
  obtain ⟨e20, e21⟩ := HO.out.e2
  go_upto_region 7 with fail
  go_wp2_with (refine wpList_load_row rfl 49 _ rfl w.heap.size rfl 49 (memA c yl yd tl td base words sv pr) (0, 0) _ HA.out Try.underlying49 rfl (by kernel_rfl) ?_)
  refine (fix_any c yl yd tl td base words sv pr _ (by omega) (by omega)).mono ?_
  rintro e z6 ⟨gW, rfl, hgW, hbW, hf⟩
  have HOK : Hid (WOk (c 0) (c 2) (fixW (c 0) (c 2) yl yd tl td)) := fix_ok yl yd tl td (by omega) (by omega)
  have HFL : Hid ((fixW (c 0) (c 2) yl yd tl td).fl = 0) := rfl
  generalize fixW (c 0) (c 2) yl yd tl td = x0 at *
  have HW := Lib.hid hbW
  have HGW : Hid (w3.heap.size ≤ gW) := Nat.le_trans HF5.out.size hgW
  have HP := Lib.hid ((PT.ob ..).fr HP.out hf (by simp [Dis]))
  have HA := Lib.hid (HA.out.fr hf (by simp))
  have HF6 : Hid (Fr [] w3 z6) := HF5.out.trans hf (by simp)
  clear hbW hgW hf HF5 HF4
  obtain ⟨el, ed, fl, fd, ol, od⟩ := x0
  obtain ⟨k1, k2, k3, k4, k5, k6, k7, k8, k9⟩ := HOK.out
  simp only at k1 k2 k3 k4 k5 k6 k7 k8 k9
  have HFL : Hid (fl = 0) := HFL.out
  have x19 : z6.cell? ⟨w.heap.size, 19, none⟩ = some (.int .i64 words) := HA.out.cell 19
  have x2 : z6.cell? ⟨w.heap.size, 2, none⟩ = some (.int .i64 (c 2)) := HA.out.cell 2
  have y14 : z6.cell? ⟨gW, 14, none⟩ = some (.int .i64 el) := HW.out.cell 14
  have y18 : z6.cell? ⟨gW, 18, none⟩ = some (.int .i64 ol) := HW.out.cell 18
  go_upto_region 8 with fail
  have s0 : IntKind.i64.wrap (c 2 - el) = c 2 - el := IntWalk.i64_in _ (by omega)
  have s1 : IntKind.i64.wrap (c 2 - el - ol) = c 2 - el - ol := IntWalk.i64_in _ (by omega)
  go_quiet (fail)
  clear s0 s1 x19 x2 y14 y18
  go_upto_region 9 with fail
  obtain ⟨fits, hfits⟩ : ∃ b, decide (words ≤ c 2 - el - ol) = b := ⟨_, rfl⟩
  rw [hfits]
  have HFIT := Lib.hid hfits
  clear hfits
  have HX : Hid (RoomAt w3 gW g c base words (el + fl + ol) 0 (z6.drewN nq)) := by
    have hph : phOf c 1 words = .small ∨ phOf c 1 words = .big := by
      unfold phOf
      simp only [if_true]
      split <;> simp
    refine ⟨_, _, fun _ => 0, _, ⟨el, ed, fl, fd, ol, od⟩, (PT.ob ..).fr HP.out ((Fr.refl [] z6).drewN _) (by simp [Dis]), EInv.start 1 (phOf c 1 words) ?_ (phOf_fin c 1 words), ?_, ?_, ?_, HW.out.drewN _, HF6.out.drewN _, ?_⟩
    · simp only [iff_true]; exact hph
    · refine ⟨HOK.out, fun _ => rfl, ?_, ?_⟩
      · intro _ h; simp [st0] at h
      · intro _ h; simp [st0] at h
    · show phOf c 1 words = .small ∨ phOf c 1 words = .big ∨ phOf c 1 words = .closing
      rcases hph with h | h
      · exact .inl h
      · exact .inr (.inl h)
    · show phOf c 1 words = .small → words ≤ c 0
      intro h
      unfold phOf at h
      simp only [if_true] at h
      split at h
      · cases h
      · rename_i hb
        unfold bigB at hb
        simp at hb
        omega
    · intro y hy
      have : y = g := by simpa [Value.ownBlock] using hy
      subst this
      exact HG.out
  generalize z6.drewN nq = z7 at *
  clear HP HG HA HF6 HW
  have k3' : 0 ≤ fl := k3
  clear k1 k2 k3 k4 k5 k6 k7 k8 k9 k3' HOK
  go_wp2_with fail
  go_loopw [9] (fun i wr => ∃ (k : Nat), k ≤ 9 ∧ i = .int .i64 k ∧ Hid (RoomAt w3 gW g c base words (el + fl + ol) k wr)) (fun i _ => 9 - (intOf i).toNat)
  case atStart => exact ⟨0, by omega, rfl, HX.out⟩
  case round =>
    obtain ⟨k, hk, rfl, hx⟩ := hrel
    have HX1 := Lib.hid hx.out
    have k5 : k < 5 := HX1.out.lt5
    clear hx HX hk
    have k6 : (k : Int) < 9 := by omega
    obtain ⟨s, l, h, cyc, x, hP, hE, hR, hph, hsm, hbW, hF, hN⟩ := HX1.out
    have HP := Lib.hid hP
    have HE := Lib.hid hE
    have HR := Lib.hid hR
    have HPH := Lib.hid hph
    have HSM := Lib.hid hsm
    have HW := Lib.hid hbW
    have HF := Lib.hid hF
    have HN := Lib.hid hN
    have HSML : Hid (Small c x) := ⟨by omega, by omega, by omega, HR.out.ok⟩
    clear hP hE hR hph hsm hbW hF hN HX1
    go_wp2_with fail
    refine (wview_any gW c x _ HW.out HSML.out).mono ?_
    rintro e z1 ⟨rfl, hf⟩
    have HP := Lib.hid ((PT.ob ..).fr HP.out hf (by simp [Dis]))
    have HW := Lib.hid (HW.out.fr hf (by simp))
    have HF := Lib.hid (HF.out.trans hf (by simp))
    clear hf
    have HCV : Hid (clipV (viewW (c 0) (c 2) x) = viewW (c 0) (c 2) x) := clipV_view HR.out.ok
    have hst := RInv.step (S := c 1) (sv := sv) (pr := pr) (limit := limitOf c base) HP.out.ok (show 0 ≤ c 0 by omega) hwords HSM.out HPH.out HR.out
    have HST := Lib.hid hst
    clear hst
    have hnx := HE.out.next (words := words) (limit := limitOf c base) (viewW (c 0) (c 2) x)
    have HNX := Lib.hid hnx
    clear hnx
    have hEN : Hid ((stepOf words (limitOf c base) s (viewW (c 0) (c 2) x)).1 = 7 → (viewW (c 0) (c 2) x).ten ≤ limitOf c (baseAt base (after words (limitOf c base) s (viewW (c 0) (c 2) x)) (viewW (c 0) (c 2) x))) := fun h7 => room_end HV.out HPH.out h7 (by have := HR.out.ok.ol; have := HR.out.ok.od; simp only [viewW]; omega) (by have := HR.out.ok.t; simp only [viewW]; omega)
    have hSM2 : Hid ((after words (limitOf c base) s (viewW (c 0) (c 2) x)).ph = .small → words ≤ c 0) := fun hh => HSM.out (step_small hh)
    have hRNG : Hid (1 ≤ (stepOf words (limitOf c base) s (viewW (c 0) (c 2) x)).1 ∧ (stepOf words (limitOf c base) s (viewW (c 0) (c 2) x)).1 ≤ 7) := step_range _ _ _ _
    have hVW : Hid (0 ≤ (viewW (c 0) (c 2) x).eden ∧ 0 ≤ (viewW (c 0) (c 2) x).room) := by
      show 0 ≤ (viewW (c 0) (c 2) x).eden ∧ 0 ≤ (viewW (c 0) (c 2) x).room
      have := HR.out.ok.e
      have := HR.out.ok.t
      simp only [viewW]
      omega
    go_wp2_with fail
    refine (next_any g c base (limitOf c base) words s l cyc (viewW (c 0) (c 2) x) _ HP.out).mono ?_
    rintro e z2 ⟨cyc', rfl, hp, hown, hf⟩
    rw [HCV.out] at hp ⊢
    have HW1 := Lib.hid (HW.out.fr hf (PT.outw HP.out HW.out (by decide) (by decide)))
    have HF1 : Hid (Fr [] w3 z2) := HF.out.trans hf (fun x hx => .inr (HN.out x hx))
    have HN1 : Hid (∀ x ∈ g :: cyc'.ownBlock.toList, w3.heap.size ≤ x) := fun x hx => by
      rcases own_step (g := g) hown x hx with h | h
      · exact HN.out x h
      · exact Nat.le_trans HF.out.size h
    have HP1 : Hid (PT z2 g c base (limitOf c base) words (after words (limitOf c base) s (viewW (c 0) (c 2) x)) (l ++ cycleOf (stepOf words (limitOf c base) s (viewW (c 0) (c 2) x)).1) cyc') := hp
    clear hp hown hf HP HF HN HW HCV HSM HPH HE
    generalize after words (limitOf c base) s (viewW (c 0) (c 2) x) = s' at *
    generalize (stepOf words (limitOf c base) s (viewW (c 0) (c 2) x)).1 = n at *
    generalize l ++ cycleOf n = l' at *
    have HWne : Hid (gW ∉ g :: cyc'.ownBlock.toList) := PT.outw HP1.out HW1.out (by decide) (by decide)
    have hgWl := HW1.out.lt
    have HM1 : Hid (Bk z2 w.heap.size 49 (memA c yl yd tl td base words sv pr)) := HM.out.fr HF1.out (by simp)
    have hcase : n = 1 ∨ n = 2 ∨ n = 3 ∨ n = 4 ∨ n = 5 ∨ n = 6 ∨ n = 7 := by have := hRNG.out; omega
    rcases hcase with rfl | rfl | rfl | rfl | rfl | rfl | rfl
    · obtain ⟨xel, xed, xfl, xfd, xol, xod⟩ := x
      have hmv := (HST.out.1 (by decide)).1.ok
      have hmv' : WOk (c 0) (c 2) ⟨xel + words, xed, xfl, xfd, xol, xod⟩ := hmv
      have b1 : 0 ≤ xel ∧ xel + words ≤ 65536 := by have := hmv'.e; have := hmv'.t; have := hmv'.ed; have := hmv'.od; have := HR.out.ok.el; have := HR.out.ok.ol; simp only at *; omega
      clear hmv hmv'
      obtain ⟨b10, b11⟩ := b1
      go_upto_region 14 with fail
      obtain ⟨z3, hz3⟩ : ∃ z3, z3 = z2.drew := ⟨_, rfl⟩
      have HW3 : Hid (Bk z3 gW 53 (worldA c ⟨xel, xed, xfl, xfd, xol, xod⟩)) := by subst hz3; exact HW1.out.drew
      have HM3 : Hid (Bk z3 w.heap.size 49 (memA c yl yd tl td base words sv pr)) := by subst hz3; exact HM1.out.drew
      have HF3' : Hid (Fr [] w3 z3) := by subst hz3; exact HF1.out.drew
      have HP3 : Hid (PT z3 g c base (limitOf c base) words s' l' cyc') := by subst hz3; exact (PT.ob ..).fr HP1.out ((Fr.refl [] z2).drew) (by simp [Dis])
      have HZ3 := Lib.hid hz3
      clear hz3
      have y1 : z3.cell? ⟨gW, 14, none⟩ = some (.int .i64 xel) := HW3.out.cell 14
      have y2 : z3.cell? ⟨w.heap.size, 19, none⟩ = some (.int .i64 words) := HM3.out.cell 19
      have fW := HW3.out.free
      have s0 : IntKind.i64.wrap (xel + words) = xel + words := IntWalk.i64_in _ (by omega)
      refine wp_region_still_tail 10 (by kernel_rfl) (by kernel_rfl) ?_
      change wpStill _ _ z2.drew _ _ _
      rw [← HZ3.out]
      simp only [List.take_succ_cons, List.take_zero, List.drop_succ_cons, List.drop_zero]
      repeat still_step
      refine wpStill_nil ?_
      change wpList _ _ _ _ _ z2.drew
      rw [← HZ3.out]
      clear s0
      go_wp2_with fail
      go_roundw
      case rel =>
        have hfz : Fr [gW] z3 (z3.setCell ⟨gW, 14, none⟩ (.int .i64 (xel + words))) := (Fr.refl _ _).setCell (by simp) _
        have hdis : Dis (g :: cyc'.ownBlock.toList) [gW] := fun x hx hy => by have : x = gW := (by simpa using hy); subst this; exact HWne.out hx
        exact ⟨k + 1, by omega, by go_num, s', l', bump h 1, cyc', _, (PT.ob ..).fr HP3.out hfz hdis, by simpa using HNX.out, (HST.out.1 (by decide)).1, (HST.out.1 (by decide)).2, hSM2.out, HW3.out.put 14 _, HF3'.out.trans hfz (fun x hx => .inr (by have : x = gW := (by simpa using hx); subst this; exact HGW.out)), HN1.out⟩
      case measure => simp [intOf]; omega
    · obtain ⟨xel, xed, xfl, xfd, xol, xod⟩ := x
      have hmv := (HST.out.1 (by decide)).1.ok
      have hmv' : WOk (c 0) (c 2) ⟨xel, xed, xfl, xfd, xol + words, xod⟩ := hmv
      have b1 : 0 ≤ xol ∧ xol + words ≤ 65536 := by have := hmv'.e; have := hmv'.t; have := hmv'.ed; have := hmv'.od; have := HR.out.ok.el; have := HR.out.ok.ol; simp only at *; omega
      clear hmv hmv'
      obtain ⟨b10, b11⟩ := b1
      go_upto_region 16 with fail
      obtain ⟨z3, hz3⟩ : ∃ z3, z3 = z2.drew := ⟨_, rfl⟩
      have HW3 : Hid (Bk z3 gW 53 (worldA c ⟨xel, xed, xfl, xfd, xol, xod⟩)) := by subst hz3; exact HW1.out.drew
      have HM3 : Hid (Bk z3 w.heap.size 49 (memA c yl yd tl td base words sv pr)) := by subst hz3; exact HM1.out.drew
      have HF3' : Hid (Fr [] w3 z3) := by subst hz3; exact HF1.out.drew
      have HP3 : Hid (PT z3 g c base (limitOf c base) words s' l' cyc') := by subst hz3; exact (PT.ob ..).fr HP1.out ((Fr.refl [] z2).drew) (by simp [Dis])
      have HZ3 := Lib.hid hz3
      clear hz3
      have y1 : z3.cell? ⟨gW, 18, none⟩ = some (.int .i64 xol) := HW3.out.cell 18
      have y2 : z3.cell? ⟨w.heap.size, 19, none⟩ = some (.int .i64 words) := HM3.out.cell 19
      have fW := HW3.out.free
      have s0 : IntKind.i64.wrap (xol + words) = xol + words := IntWalk.i64_in _ (by omega)
      refine wp_region_still_tail 10 (by kernel_rfl) (by kernel_rfl) ?_
      change wpStill _ _ z2.drew _ _ _
      rw [← HZ3.out]
      simp only [List.take_succ_cons, List.take_zero, List.drop_succ_cons, List.drop_zero]
      repeat still_step
      refine wpStill_nil ?_
      change wpList _ _ _ _ _ z2.drew
      rw [← HZ3.out]
      clear s0
      go_wp2_with fail
      go_roundw
      case rel =>
        have hfz : Fr [gW] z3 (z3.setCell ⟨gW, 18, none⟩ (.int .i64 (xol + words))) := (Fr.refl _ _).setCell (by simp) _
        have hdis : Dis (g :: cyc'.ownBlock.toList) [gW] := fun x hx hy => by have : x = gW := (by simpa using hy); subst this; exact HWne.out hx
        exact ⟨k + 1, by omega, by go_num, s', l', bump h 2, cyc', _, (PT.ob ..).fr HP3.out hfz hdis, by simpa using HNX.out, (HST.out.1 (by decide)).1, (HST.out.1 (by decide)).2, hSM2.out, HW3.out.put 18 _, HF3'.out.trans hfz (fun x hx => .inr (by have : x = gW := (by simpa using hx); subst this; exact HGW.out)), HN1.out⟩
      case measure => simp [intOf]; omega
    · go_wp2_with (refine wpList_load_row rfl 49 _ rfl w.heap.size rfl 49 (memA c yl yd tl td base words sv pr) (0, 0) _ HM1.out Try.underlying49 rfl (by kernel_rfl) ?_)
      refine (wminor_any gW c x false yl yd tl td base words sv pr _ HW1.out HSML.out).mono ?_
      rintro e z3 ⟨rfl, hb3, hfz⟩
      have HW3 := Lib.hid hb3
      have HFZ := Lib.hid hfz
      clear hb3 hfz
      go_wp2_with fail
      go_roundw
      case rel =>
        have hdis : Dis (g :: cyc'.ownBlock.toList) [gW] := fun x hx hy => by have : x = gW := (by simpa using hy); subst this; exact HWne.out hx
        exact ⟨k + 1, by omega, by go_num, s', l', bump h 3, cyc', _, (PT.ob ..).fr HP1.out HFZ.out hdis, by simpa using HNX.out, (HST.out.1 (by decide)).1, (HST.out.1 (by decide)).2, hSM2.out, HW3.out, HF1.out.trans HFZ.out (fun x hx => .inr (by have : x = gW := (by simpa using hx); subst this; exact HGW.out)), HN1.out⟩
      case measure => simp [intOf]; omega
    · go_wp2_with (refine wpList_load_row rfl 49 _ rfl w.heap.size rfl 49 (memA c yl yd tl td base words sv pr) (0, 0) _ HM1.out Try.underlying49 rfl (by kernel_rfl) ?_)
      refine (wminor_any gW c x true yl yd tl td base words sv pr _ HW1.out HSML.out).mono ?_
      rintro e z3 ⟨rfl, hb3, hfz⟩
      have HW3 := Lib.hid hb3
      have HFZ := Lib.hid hfz
      clear hb3 hfz
      go_wp2_with fail
      go_roundw
      case rel =>
        have hdis : Dis (g :: cyc'.ownBlock.toList) [gW] := fun x hx hy => by have : x = gW := (by simpa using hy); subst this; exact HWne.out hx
        exact ⟨k + 1, by omega, by go_num, s', l', bump h 4, cyc', _, (PT.ob ..).fr HP1.out HFZ.out hdis, by simpa using HNX.out, (HST.out.1 (by decide)).1, (HST.out.1 (by decide)).2, hSM2.out, HW3.out, HF1.out.trans HFZ.out (fun x hx => .inr (by have : x = gW := (by simpa using hx); subst this; exact HGW.out)), HN1.out⟩
      case measure => simp [intOf]; omega
    · obtain ⟨xel, xed, xfl, xfd, xol, xod⟩ := x
      have y15 : z2.cell? ⟨gW, 15, none⟩ = some (.int .i64 xed) := HW1.out.cell 15
      have y17 : z2.cell? ⟨gW, 17, none⟩ = some (.int .i64 xfd) := HW1.out.cell 17
      have y19 : z2.cell? ⟨gW, 19, none⟩ = some (.int .i64 xod) := HW1.out.cell 19
      have fW := HW1.out.free
      go_wp2_with fail
      go_roundw
      case rel =>
        have hfz : Fr [gW] z2 (((z2.setCell ⟨gW, 15, none⟩ (.int .i64 0)).setCell ⟨gW, 17, none⟩ (.int .i64 0)).setCell ⟨gW, 19, none⟩ (.int .i64 0)) := (((Fr.refl _ _).setCell (by simp) _).setCell (by simp) _).setCell (by simp) _
        have hdis : Dis (g :: cyc'.ownBlock.toList) [gW] := fun x hx hy => by have : x = gW := (by simpa using hy); subst this; exact HWne.out hx
        exact ⟨k + 1, by omega, by go_num, s', l', bump h 5, cyc', _, (PT.ob ..).fr HP1.out hfz hdis, by simpa using HNX.out, (HST.out.1 (by decide)).1, (HST.out.1 (by decide)).2, hSM2.out, ((HW1.out.put 15 _).put 17 _).put 19 _, HF1.out.trans hfz (fun x hx => .inr (by have : x = gW := (by simpa using hx); subst this; exact HGW.out)), HN1.out⟩
      case measure => simp [intOf]; omega
    · obtain rfl : fits = false := by
        have h1 := HST.out.2 rfl
        have h2 := HFIT.out
        have h3 := HFL.out
        rw [← h2]
        simp
        omega
      go_wp2_with fail
      go_roundw
      case rel => exact ⟨k + 1, by omega, by go_num, s', l', bump h 6, cyc', _, HP1.out, by simpa using HNX.out, (HST.out.1 (by decide)).1, (HST.out.1 (by decide)).2, hSM2.out, HW1.out, HF1.out, HN1.out⟩
      case measure => simp [intOf]; omega
    · go_wp2_with fail
      refine (wview_any gW c x _ HW1.out HSML.out).mono ?_
      rintro e z3 ⟨rfl, hf⟩
      have HP3 := Lib.hid ((PT.ob ..).fr HP1.out hf (by simp [Dis]))
      have HF3x := Lib.hid (HF1.out.trans hf (by simp))
      have HM3 := Lib.hid (HM1.out.fr hf (by simp))
      clear hf
      have hend : (viewW (c 0) (c 2) x).ten ≤ limitOf c (baseAt base s' (viewW (c 0) (c 2) x)) := by first | exact hEN.out trivial | exact hEN.out rfl
      obtain ⟨hv0, hv1⟩ := hVW.out
      clear HST HNX hEN hSM2 hRNG hVW HR HW1 HM1 HF1 HSML
      generalize viewW (c 0) (c 2) x = v at *
      have HEND := Lib.hid hend
      clear hend
      have HV4 := Lib.hid (Bk.new z3 40 #[.int .i64 v.eden, .int .i64 v.young, .int .i64 v.ten, .int .i64 v.room])
      have HP4 := Lib.hid ((PT.ob ..).fr HP3.out ((Fr.refl [] z3).alloc (.cells #[.int .i64 v.eden, .int .i64 v.young, .int .i64 v.ten, .int .i64 v.room] 40)) (by simp [Dis]))
      have HF4 := Lib.hid (HF3x.out.alloc (.cells #[.int .i64 v.eden, .int .i64 v.young, .int .i64 v.ten, .int .i64 v.room] 40))
      have HM4 := Lib.hid (HM3.out.alloc (.cells #[.int .i64 v.eden, .int .i64 v.young, .int .i64 v.ten, .int .i64 v.room] 40))
      clear HP3 HF3x HM3
      go_upto_region 28 with fail
      change Code.wp _ _ _ _ (z3.alloc (.cells #[.int .i64 v.eden, .int .i64 v.young, .int .i64 v.ten, .int .i64 v.room] 40))
      generalize z3.heap.size = gV at *
      generalize z3.alloc (.cells #[.int .i64 v.eden, .int .i64 v.young, .int .i64 v.ten, .int .i64 v.room] 40) = z4 at *
      have HKEEP : Hid (∀ {W : World}, Fr [] z4.drew W → W.cell? ⟨gV, 0, none⟩ = some (.int .i64 v.eden) ∧ W.cell? ⟨gV, 1, none⟩ = some (.int .i64 v.young) ∧ W.cell? ⟨gV, 2, none⟩ = some (.int .i64 v.ten) ∧ W.cell? ⟨gV, 3, none⟩ = some (.int .i64 v.room) ∧ W.cell? ⟨w.heap.size, 0, none⟩ = some (.int .i64 (c 0)) ∧ W.cell? ⟨w.heap.size, 1, none⟩ = some (.int .i64 (c 1)) ∧ W.cell? ⟨w.heap.size, 2, none⟩ = some (.int .i64 (c 2)) ∧ W.cell? ⟨w.heap.size, 3, none⟩ = some (.int .i64 (c 3)) ∧ W.cell? ⟨w.heap.size, 4, none⟩ = some (.int .i64 (c 4)) ∧ W.cell? ⟨w.heap.size, 5, none⟩ = some (.int .i64 (c 5)) ∧ W.cell? ⟨w.heap.size, 6, none⟩ = some (.int .i64 (c 6)) ∧ W.cell? ⟨w.heap.size, 7, none⟩ = some (.int .i64 (c 7)) ∧ W.cell? ⟨w.heap.size, 8, none⟩ = some (.int .i64 (c 8)) ∧ W.cell? ⟨w.heap.size, 9, none⟩ = some (.int .i64 (c 9)) ∧ W.cell? ⟨w.heap.size, 10, none⟩ = some (.int .i64 (c 10)) ∧ W.cell? ⟨w.heap.size, 11, none⟩ = some (.int .i64 (c 11)) ∧ W.cell? ⟨w.heap.size, 12, none⟩ = some (.int .i64 (c 12)) ∧ W.cell? ⟨w.heap.size, 13, none⟩ = some (.int .i64 (c 13))) := fun {W} hf => by
        have hf' : Fr [] z4 W := (Fr.refl [] z4).drew.trans hf (by simp)
        have k1 := HM4.out.fr hf' (by simp)
        have k2 := HV4.out.fr hf' (by simp)
        exact ⟨k2.cell 0, k2.cell 1, k2.cell 2, k2.cell 3, k1.cell 0, k1.cell 1, k1.cell 2, k1.cell 3, k1.cell 4, k1.cell 5, k1.cell 6, k1.cell 7, k1.cell 8, k1.cell 9, k1.cell 10, k1.cell 11, k1.cell 12, k1.cell 13⟩
      have HPK : Hid (∀ {W : World}, Fr [] z4.drew W → PT W g c base (limitOf c base) words s' l' cyc') := fun {W} hf => (PT.ob ..).fr HP4.out ((Fr.refl [] z4).drew.trans hf (by simp)) (by simp [Dis])
      have hend := HEND.out
      have b0 : decide (0 ≤ v.eden) = true := by simpa using hv0
      have b1 : decide (0 ≤ v.room) = true := by simpa using hv1
      have b2 : decide (v.ten ≤ limitOf c (baseAt base s' v)) = true := by simpa using hend
      have HFR : Hid (∀ {W : World}, Fr [] z4.drew W → Fr [] w W) := fun {W} hf => HF3.out.trans (HF4.out.trans ((Fr.refl [] z4).drew.trans hf (by simp)) (by simp)) (by simp)
      clear hend HEND HP4 HF4 HM4 HV4
      go_region_held3 (fun W => W.cell? ⟨gV, 0, none⟩ = some (.int .i64 v.eden) ∧ W.cell? ⟨gV, 1, none⟩ = some (.int .i64 v.young) ∧ W.cell? ⟨gV, 2, none⟩ = some (.int .i64 v.ten) ∧ W.cell? ⟨gV, 3, none⟩ = some (.int .i64 v.room) ∧ W.cell? ⟨w.heap.size, 0, none⟩ = some (.int .i64 (c 0)) ∧ W.cell? ⟨w.heap.size, 1, none⟩ = some (.int .i64 (c 1)) ∧ W.cell? ⟨w.heap.size, 2, none⟩ = some (.int .i64 (c 2)) ∧ W.cell? ⟨w.heap.size, 3, none⟩ = some (.int .i64 (c 3)) ∧ W.cell? ⟨w.heap.size, 4, none⟩ = some (.int .i64 (c 4)) ∧ W.cell? ⟨w.heap.size, 5, none⟩ = some (.int .i64 (c 5)) ∧ W.cell? ⟨w.heap.size, 6, none⟩ = some (.int .i64 (c 6)) ∧ W.cell? ⟨w.heap.size, 7, none⟩ = some (.int .i64 (c 7)) ∧ W.cell? ⟨w.heap.size, 8, none⟩ = some (.int .i64 (c 8)) ∧ W.cell? ⟨w.heap.size, 9, none⟩ = some (.int .i64 (c 9)) ∧ W.cell? ⟨w.heap.size, 10, none⟩ = some (.int .i64 (c 10)) ∧ W.cell? ⟨w.heap.size, 11, none⟩ = some (.int .i64 (c 11)) ∧ W.cell? ⟨w.heap.size, 12, none⟩ = some (.int .i64 (c 12)) ∧ W.cell? ⟨w.heap.size, 13, none⟩ = some (.int .i64 (c 13))) ((first | exact HKEEP.out (by assumption) | exact HKEEP.out (Fr.refl _ _) | exact HKEEP.out (Fr.trans (by assumption) (by assumption) (by simp)))) ((first | (go_at_call 23; refine (base_any g c base (limitOf c base) words s' l' cyc' v _ ?_).mono ?_; (first | exact HPK.out (Fr.refl _ _) | exact HPK.out (by assumption)); rintro e z5 ⟨rfl, hf5⟩) | (go_at_call 7; refine (limit_any c (baseAt base s' v) _).mono ?_; rintro e z6' ⟨rfl, hf6⟩)))
      all_goals go_wp2_with fail
      all_goals go_ret
      all_goals exact ⟨rfl, HFR.out (hf5.trans hf6 (by simp))⟩
end Go.Proofs.Ytjphgedbejoeaaa
