/-
  Marks: Slide's round, region by region.
-/
import Derived.Test.YtheiacfdbhjbmaaDoorMk6
namespace Go.Proofs.YtheiacfdbhjbmaaDoor
open Go.RowKit Mk
set_option linter.unusedVariables false

def slideC (from_ behind base m cap total bs : Nat) (sv : Value) : Array Value := #[.int .i64 from_, .int .i64 behind, .int .i64 base, .slice (some ⟨bs, 0, none⟩) m cap, sv, .int .i64 total]

theorem slide_refused (g gb size : Nat) (f : Nat → Bool) (a b c : Int) (w : World) (h : MapIs w g gb size f) (hbad : ¬ (0 ≤ a ∧ b ≤ size ∧ a ≤ b ∧ 0 ≤ c ∧ c ≤ 1048576)) :
    Calls Tryd.prog 14 #[.pointer (some ⟨g, 0, none⟩), .int .i64 a, .int .i64 b, .int .i64 c] w fun e w' => e = .returned (.tuple #[.pointer none, .int .i64 41]) ∧ w = w' := by
  have c0 : w.cell? ⟨g, 0, none⟩ = some (.int .i64 size) := h.B.cell 0
  clear h
  go_enter Tryd.func14, Tryd.ntmps14
  go_upto_region 3 with fail
  all_goals first | (go_ret2; exact ⟨rfl, rfl⟩) | (exfalso; omega)

/-- The first mask's argument. -/
theorem mask_arg (a d p : Nat) (hp : min (a - d) 64 = p) :
    (if (64 : Int) < (if (a : Int) - (d : Int) < 0 then 0 else (a : Int) - (d : Int)) then 64 else (if (a : Int) - (d : Int) < 0 then 0 else (a : Int) - (d : Int))) = (p : Int) := by
  subst hp
  split <;> split <;> omega

set_option maxRecDepth 100000 in
set_option maxHeartbeats 8000000 in
theorem slide_ok (g gb size : Nat) (f : Nat → Bool) (a b c : Nat) (w : World) (h : MapIs w g gb size f) (hO : On w) (hab : a ≤ b) (hbs : b ≤ size) (hc : c ≤ 1048576) :
    Calls Tryd.prog 14 #[.pointer (some ⟨g, 0, none⟩), .int .i64 a, .int .i64 b, .int .i64 c] w fun e w' =>
      ∃ gs bs cap, e = .returned (.tuple #[.pointer (some ⟨gs, 0, none⟩), .int .i64 0]) ∧ SlideAt w w' gs bs a b c (nums size) cap f (nums size) := by
  have c0 : w.cell? ⟨g, 0, none⟩ = some (.int .i64 size) := h.B.cell 0
  have c1 : w.cell? ⟨g, 1, none⟩ = some (.slice (some ⟨gb, 0, none⟩) (nums size) (nums size)) := h.B.cell 1
  obtain ⟨cs, hcs, hcz⟩ := h.W
  have hmost := h.most
  have hml : nums size ≤ 16384 := by unfold nums; omega
  have HV := Lib.hid h.V
  have HO := Lib.hid hO
  have h1 : ∀ u ∈ cs.toList, u.oneCell' = true := fun u hu => by
    obtain ⟨i, hi, hiu⟩ := List.getElem_of_mem hu
    obtain ⟨x, hx, _⟩ := h.V.wd i (by rw [← hcz]; simpa using hi)
    rw [hcs.cell i] at hx
    have : cs[i]? = some u := by
      rw [← hiu]
      simp at hi ⊢
    rw [this] at hx
    obtain rfl := Option.some.inj hx
    simp [Value.oneCell']
  have HCS := Lib.hid hcs
  have HCZ := Lib.hid hcz
  have H1 := Lib.hid h1
  clear h hO hcs hcz h1
  have d1 : decide ((a : Int) < 0) = false := by simp
  have d2 : decide ((size : Int) < (b : Int)) = false := by simp; omega
  have d2n : decide (size < b) = false := by simp; omega
  have d3 : decide ((b : Int) < (a : Int)) = false := by simp; omega
  have d3n : decide (b < a) = false := by simp; omega
  have d4 : decide ((c : Int) < 0) = false := by simp
  have d5 : decide ((1048576 : Int) < (c : Int)) = false := by simp; omega
  go_enter Tryd.func14, Tryd.ntmps14
  go_wp2_with fail
  refine (clone_any gb (nums size) cs w HCS.out HCZ.out (by omega) H1.out).mono ?_
  rintro e w1 ⟨bs, cap, cs', rfl, hbs1, hmc, hcm, hb', hsz', hget, hfr⟩
  have HX : Hid (SlideAt w (w1.alloc (.cells (slideC a b c (nums size) cap 0 bs (.slice none 0 0)) 60)) w1.heap.size bs a b c (nums size) cap f 0) := by
    refine ⟨⟨_, by simpa [slideC, cnt] using Bk.new w1 60 (slideC a b c (nums size) cap 0 bs (.slice none 0 0)), World.ownsRow_nil _ _ _ _⟩, ⟨_, hb'.alloc _, hsz'⟩, fun i hi => ?_, hfr.alloc _, hfr.size, hbs1⟩
    obtain ⟨x, hx, hwd⟩ := HV.out.wd i hi
    rw [HCS.out.cell i, ← hget i hi] at hx
    exact ⟨x, by rw [(hb'.alloc _).cell i]; exact hx, by rw [mix_zero]; exact hwd⟩
  have hcap : cap ≤ 9223372036854775807 := by unfold maxLen at hcm; omega
  clear hbs1 hb' hsz' hget hfr hcm c0 c1 d1 d2 d2n d3 d3n d4 d5 HCS HCZ H1
  generalize hm : nums size = m at *
  have HMS := Lib.hid hm
  clear hm
  go_upto_region 4 with fail
  change Code.wp _ _ _ _ (w1.alloc (.cells (slideC a b c m cap 0 bs (.slice none 0 0)) 60))
  generalize w1.alloc (.cells (slideC a b c m cap 0 bs (.slice none 0 0)) 60) = w2 at *
  generalize w1.heap.size = gs at *
  obtain ⟨⟨sv0, hB0, _⟩, _, _, _, _, _⟩ := HX.out
  have x3 : w2.cell? ⟨gs, 3, none⟩ = some (.slice (some ⟨bs, 0, none⟩) m cap) := hB0.cell 3
  clear hB0
  go_wp2_with fail
  clear x3
  go_loopw [51] (fun i wr => ∃ k : Nat, k ≤ m ∧ i = .int .i64 k ∧ Hid (SlideAt w wr gs bs a b c m cap f k)) (fun i _ => m - (intOf i).toNat)
  case atStart => exact ⟨0, Nat.zero_le _, rfl, HX.out⟩
  case round =>
    obtain ⟨k, hk, rfl, hx⟩ := hrel
    have HX1 := Lib.hid hx.out
    clear hx HX
    by_cases hlt : k < m
    · obtain ⟨⟨sv, hB, hown⟩, ⟨cs2, hcs, hsz⟩, hV, hF, hn1, hn2⟩ := HX1.out
      obtain ⟨x, hx, hwd⟩ := hV k hlt
      have hwd0 := wd_mix_at hwd
      have hxl := hwd.lt
      obtain ⟨d, hd⟩ : ∃ d, 64 * k = d := ⟨_, rfl⟩
      have e0 : (k : Int) * 64 = (d : Int) := by omega
      have hdl : d ≤ 1048576 := by omega
      have hlt' : (k : Int) < (m : Int) := by omega
      have i0 : (0 : Int) ≤ (k : Int) := by omega
      obtain ⟨p1, hp1⟩ : ∃ p, min (a - d) 64 = p := ⟨_, rfl⟩
      obtain ⟨q1, hq1⟩ : ∃ q, 2 ^ p1 - 1 = q := ⟨_, rfl⟩
      obtain ⟨y1, hy1⟩ : ∃ y, x &&& (18446744073709551615 - q1) = y := ⟨_, rfl⟩
      have hp1l : p1 ≤ 64 := by omega
      have hq1l : q1 < 18446744073709551616 := by
        rw [← hq1]
        have : 2 ^ p1 ≤ 2 ^ 64 := Nat.pow_le_pow_right (by omega) hp1l
        omega
      have hy1l : y1 < 18446744073709551616 := by rw [← hy1]; exact Nat.lt_of_le_of_lt Nat.and_le_left hxl
      have en1 : bits .andNot .u64 (x : Int) (q1 : Int) = (y1 : Int) := by rw [u64_andNot_nat x q1 hxl hq1l, hy1]
      have em1 := mask_arg a d p1 hp1
      have HD := Lib.hid hd
      have HP1 := Lib.hid hp1
      have HQ1 := Lib.hid hq1
      have HY1 := Lib.hid hy1
      have HB := Lib.hid hB
      have HOW := Lib.hid hown
      have HCS := Lib.hid (And.intro hcs hsz)
      have HVV := Lib.hid hV
      have HF := Lib.hid hF
      have HN1 := Lib.hid hn1
      have HN2 := Lib.hid hn2
      have HWD := Lib.hid hwd0
      have hne : gs ≠ bs := hB.ne hcs (by decide)
      have hgsl := hB.lt
      have hbsl := hcs.lt
      clear hd hp1 hq1 hy1 hB hown hcs hsz hV hF hn1 hn2 hwd0 hwd
      go_upto_region 8 with fail
      obtain ⟨z, hz⟩ : ∃ z, z = wr.drew := ⟨_, rfl⟩
      have s3 : z.cell? ⟨gs, 3, none⟩ = some (.slice (some ⟨bs, 0, none⟩) m cap) := by subst hz; exact HB.out.cell 3
      have xk : z.cell? ⟨bs, k, none⟩ = some (.int .u64 x) := by subst hz; exact hx
      have fz : z.frozen? ⟨bs, k, none⟩ = false := by subst hz; exact HCS.out.1.free k
      have HZ := Lib.hid hz
      have HBE : Hid (Calls Tryd.prog 34 #[.int .i64 p1] z fun e w' => e = .returned (.int .u64 (q1 : Nat)) ∧ w' = z) := by
        have := below_any p1 z hp1l
        rw [HQ1.out] at this
        exact this.mono fun e w' h => ⟨h.1, h.2.symm⟩
      clear hz hx
      have sW : IntKind.i64.wrap ((a : Int) - (d : Int)) = (a : Int) - (d : Int) := IntWalk.i64_in _ (by omega)
      refine wp_region_still_tail 15 (by kernel_rfl) (by kernel_rfl) ?_
      change wpStill _ _ wr.drew _ _ _
      rw [← HZ.out]
      simp only [List.take_succ_cons, List.take_zero, List.drop_succ_cons, List.drop_zero]
      still_step
      still_step
      still_step
      still_step
      still_step
      still_step
      still_step
      still_step
      still_step
      still_step
      still_step
      still_step
      still_call HBE.out
      still_step
      still_step
      refine wpStill_nil ?_
      change wpList _ _ _ _ _ wr.drew
      rw [← HZ.out]
      clear sW em1 en1
      go_upto_region 9 with fail
      -- the second mask
      obtain ⟨z1, hz1⟩ : ∃ z1, z1 = (z.setCell ⟨bs, k, none⟩ (.int .u64 (y1 : Nat))).drew := ⟨_, rfl⟩
      have HFz : Fr [] w z := by rw [HZ.out]; exact HF.out.drew
      have hBz : Bk z gs 60 (slideC a b c m cap (cnt (cutF f a b) 0 (64 * k)) bs sv) := by rw [HZ.out]; exact HB.out.drew
      have hCz : Bk z bs 58 cs2 := by rw [HZ.out]; exact HCS.out.1.drew
      have HB1 : Hid (Bk z1 gs 60 (slideC a b c m cap (cnt (cutF f a b) 0 (64 * k)) bs sv)) := by subst hz1; exact (hBz.far (p := ⟨bs, k, none⟩) hne _).drew
      have HC1 : Hid (Bk z1 bs 58 (cs2.setIfInBounds k (.int .u64 (y1 : Nat)))) := by subst hz1; exact (hCz.put k _).drew
      have HF1 : Hid (Fr [] w z1) := by subst hz1; exact (HFz.setCell (.inr HN2.out) _).drew
      have HW1 : Hid (Fr [bs] wr z1) := by subst hz1; rw [HZ.out]; exact ((Fr.refl [bs] wr).drew.setCell (by simp) _).drew
      have HZ1 := Lib.hid hz1
      clear hz1 hBz hCz HFz s3 xk fz HBE
      have s3 : z1.cell? ⟨gs, 3, none⟩ = some (.slice (some ⟨bs, 0, none⟩) m cap) := HB1.out.cell 3
      have xk : z1.cell? ⟨bs, k, none⟩ = some (.int .u64 y1) := by
        have hk2 : k < cs2.size := by have := HCS.out.2; omega
        rw [HC1.out.cell k, Array.getElem?_setIfInBounds]
        simp [hk2]
      have fz := HC1.out.free k
      obtain ⟨p2, hp2⟩ : ∃ p, min (b - d) 64 = p := ⟨_, rfl⟩
      obtain ⟨q2, hq2⟩ : ∃ q, 2 ^ p2 - 1 = q := ⟨_, rfl⟩
      obtain ⟨y2, hy2⟩ : ∃ y, y1 &&& q2 = y := ⟨_, rfl⟩
      have hp2l : p2 ≤ 64 := by omega
      have hq2l : q2 < 18446744073709551616 := by
        rw [← hq2]
        have : 2 ^ p2 ≤ 2 ^ 64 := Nat.pow_le_pow_right (by omega) hp2l
        omega
      have hy2l : y2 < 18446744073709551616 := by rw [← hy2]; exact Nat.lt_of_le_of_lt Nat.and_le_left hy1l
      have en2 : bits .and .u64 (y1 : Int) (q2 : Int) = (y2 : Int) := by rw [u64_and_nat y1 q2 hy1l hq2l, hy2]
      have em2 := mask_arg b d p2 hp2
      have HY2 : Hid (Wd (cutF f a b) k y2) := by
        have := wd_cut (a := a) (b := b) HWD.out
        rw [HD.out, HP1.out, hp2, HQ1.out, hq2, HY1.out, hy2] at this
        exact this
      have HQ2 := Lib.hid hq2
      clear hp2 hq2 hy2
      have HBE : Hid (Calls Tryd.prog 34 #[.int .i64 p2] z1 fun e w' => e = .returned (.int .u64 (q2 : Nat)) ∧ w' = z1) := by
        have := below_any p2 z1 hp2l
        rw [HQ2.out] at this
        exact this.mono fun e w' h => ⟨h.1, h.2.symm⟩
      have sW : IntKind.i64.wrap ((b : Int) - (d : Int)) = (b : Int) - (d : Int) := IntWalk.i64_in _ (by omega)
      refine wp_region_still_tail 15 (by kernel_rfl) (by kernel_rfl) ?_
      change wpStill _ _ (z.setCell ⟨bs, k, none⟩ (.int .u64 (y1 : Nat))).drew _ _ _
      rw [← HZ1.out]
      simp only [List.take_succ_cons, List.take_zero, List.drop_succ_cons, List.drop_zero]
      still_step
      still_step
      still_step
      still_step
      still_step
      still_step
      still_step
      still_step
      still_step
      still_step
      still_step
      still_step
      still_call HBE.out
      still_step
      still_step
      refine wpStill_nil ?_
      change wpList _ _ _ _ _ (z.setCell ⟨bs, k, none⟩ (.int .u64 (y1 : Nat))).drew
      rw [← HZ1.out]
      clear sW em2 en2
      go_upto_region 10 with fail
      -- the sum is noted
      obtain ⟨z2, hz2⟩ : ∃ z2, z2 = z1.setCell ⟨bs, k, none⟩ (.int .u64 (y2 : Nat)) := ⟨_, rfl⟩
      have HB2 : Hid (Bk z2 gs 60 (slideC a b c m cap (cnt (cutF f a b) 0 (64 * k)) bs sv)) := by subst hz2; exact HB1.out.far (p := ⟨bs, k, none⟩) hne _
      have HC2 : Hid (Bk z2 bs 58 ((cs2.setIfInBounds k (.int .u64 (y1 : Nat))).setIfInBounds k (.int .u64 (y2 : Nat)))) := by subst hz2; exact HC1.out.put k _
      have HF2 : Hid (Fr [] w z2) := by subst hz2; exact HF1.out.setCell (.inr HN2.out) _
      have HW2 : Hid (Fr [bs] wr z2) := by subst hz2; exact HW1.out.setCell (by simp) _
      have hsvb : ∀ j, sv.ownBlock = some j → j ≠ bs := (Lst.of_own HOW.out).ne_bk HCS.out.1 (by decide)
      have hsvg : ∀ j, sv.ownBlock = some j → j ≠ gs := (Lst.of_own HOW.out).ne_bk HB.out (by decide)
      have HO2 : Hid (z2.ownsRow w.heap.size 3 1 sv k (sums (cutF f a b) k)) := own_fr HOW.out HW2.out (fun j hj hx => hsvb j hj (by simpa using hx))
      have HSG := Lib.hid hsvg
      have HSB := Lib.hid hsvb
      rw [← hz2]
      clear hz2 s3 xk fz HBE hsvg hsvb
      obtain ⟨t0, ht0⟩ : ∃ t0, cnt (cutF f a b) 0 (64 * k) = t0 := ⟨_, rfl⟩
      rw [ht0] at HB2
      have HT0 := Lib.hid ht0
      have ht0l : t0 ≤ 64 * k := by rw [← ht0]; exact cnt_le _ _ _
      clear ht0
      have HK : Hid (∀ {W : World}, Fr sv.ownBlock.toList z2 W → W.cell? ⟨gs, 4, none⟩ = some sv ∧ W.cell? ⟨gs, 5, none⟩ = some (.int .i64 (t0 : Nat)) ∧ W.frozen? ⟨gs, 4, none⟩ = false) := fun {W} hf => by
        have k1 := HB2.out.fr hf (fun hx => HSG.out gs (by simpa using hx) rfl)
        exact ⟨k1.cell 4, k1.cell 5, k1.free 4⟩
      obtain ⟨c4, c5, f4⟩ := HK.out (Fr.refl _ _)
      have lgs := HB2.out.lt
      obtain ⟨i2, hi2, hz2, hs2, hb2⟩ := info_parts int_info
      go_region_law
        ((refine step_append_lies _ (by rfl) _ _ _ (by rfl) w.heap.size 3 i2 _ 1 8 Tryd.underlying22 hi2 hz2 hs2 hb2 rfl (by omega) sv k (sums (cutF f a b) k) (by rfl) ((HO2.out.alloc _))
            ⟨z2.heap.size, 0, none⟩ 1 1 [.int .i64 (t0 : Nat)] (by rfl) (by rfl) (World.news_of_block (cs := #[.int .i64 (t0 : Nat)]) (t := 3) (fr := (0, 0)) (Bk.new_at _ _ _ _ (by simp))) (by simp [Value.oneCell'])
            (by omega) (by unfold maxLen; omega) (by omega) (by have := HF2.out.size; simp; omega) (z2.heap.size + 1) (by simp) ?_; intro gg cap2 w3 hown1 hgrow hat hlt3; have hfr3 : Fr sv.ownBlock.toList z2 w3 := (by repeat (first | exact Fr.refl _ _ | refine Fr.drew ?_ | refine Fr.alloc ?_ _ | refine Fr.grown ?_ hgrow (by intro j hj; exact .inl (by simp [hj])))); have hcz := (HK.out hfr3).1; have hcz5 := (HK.out hfr3).2.1; have hfz := (HK.out hfr3).2.2))
      all_goals
        have HB3 : Hid (Bk w3 gs 60 (slideC a b c m cap t0 bs sv)) := HB2.out.fr hfr3 (fun hx => HSG.out gs (by simpa using hx) rfl)
        have HC3 : Hid (Bk w3 bs 58 ((cs2.setIfInBounds k (.int .u64 (y1 : Nat))).setIfInBounds k (.int .u64 (y2 : Nat)))) := HC2.out.fr hfr3 (fun hx => HSB.out bs (by simpa using hx) rfl)
        have HF3 : Hid (Fr [] w w3) := HF2.out.trans hfr3 (fun j hj => .inr (HOW.out.lt j (by simpa using hj)).1)
        have HO3 : Hid (w3.ownsRow w.heap.size 3 1 (.slice (some ⟨gg, 0, none⟩) (k + 1) cap2) (k + 1) (sums (cutF f a b) (k + 1))) := by
          rw [sums_succ, HT0.out]
          exact hown1
        have hggs : ∀ j, (Value.slice (some ⟨gg, 0, none⟩) (k + 1) cap2).ownBlock = some j → j ≠ gs := (Lst.of_own HO3.out).ne_bk HB3.out (by decide)
        have HGG := Lib.hid hggs
        obtain ⟨w4, hw4⟩ : ∃ w4, w4 = (w3.setCell ⟨gs, 4, none⟩ (.slice (some ⟨gg, 0, none⟩) (k + 1) cap2)).drew := ⟨_, rfl⟩
        have HB4 : Hid (Bk w4 gs 60 (slideC a b c m cap t0 bs (.slice (some ⟨gg, 0, none⟩) (k + 1) cap2))) := by subst hw4; exact (HB3.out.put 4 _).drew
        have HC4 : Hid (Bk w4 bs 58 ((cs2.setIfInBounds k (.int .u64 (y1 : Nat))).setIfInBounds k (.int .u64 (y2 : Nat)))) := by subst hw4; exact (HC3.out.far (p := ⟨gs, 4, none⟩) (Ne.symm hne) _).drew
        have HF4 : Hid (Fr [] w w4) := by subst hw4; exact (HF3.out.setCell (.inr HN1.out) _).drew
        have HO4 : Hid (w4.ownsRow w.heap.size 3 1 (.slice (some ⟨gg, 0, none⟩) (k + 1) cap2) (k + 1) (sums (cutF f a b) (k + 1))) := by
          subst hw4
          exact own_fr HO3.out (((Fr.refl [gs] w3).setCell (by simp) _).drew) (fun j hj hx => HGG.out j hj (by simpa using hx))
        have HW4 := Lib.hid hw4
        clear hown1 hgrow hat hfr3 hcz hcz5 hfz hggs hw4 c4 c5 f4
        go_upto_region 11 with fail
        have s3 : w4.cell? ⟨gs, 3, none⟩ = some (.slice (some ⟨bs, 0, none⟩) m cap) := HB4.out.cell 3
        have s5 : w4.cell? ⟨gs, 5, none⟩ = some (.int .i64 (t0 : Nat)) := HB4.out.cell 5
        have f5 := HB4.out.free 5
        have xk : w4.cell? ⟨bs, k, none⟩ = some (.int .u64 y2) := by
          have hk2 : k < cs2.size := by have := HCS.out.2; omega
          rw [HC4.out.cell k, Array.getElem?_setIfInBounds]
          simp [hk2]
        have hpl := pop_le y2
        have HCN : Hid (Calls Tryd.prog 35 #[.int .u64 y2] w4 fun e w' => e = .returned (.int .i64 (pop y2 : Nat)) ∧ w' = w4) :=
          (count_any y2 w4 hy2l (HO.out.fr HF4.out (by simp))).mono fun e w' h => ⟨h.1, h.2.symm⟩
        have HPP : Hid (cnt (cutF f a b) 0 (64 * (k + 1)) = t0 + pop y2) := by
          show cnt (cutF f a b) 0 (64 * (k + 1)) = t0 + pop y2
          rw [show 64 * (k + 1) = 64 * k + 64 from by omega, cnt_add, HT0.out, Nat.zero_add, pop_word HY2.out]
        generalize pop y2 = pp at *
        have sW : IntKind.i64.wrap ((t0 : Nat) + ((pp : Nat) : Int)) = (t0 : Nat) + ((pp : Nat) : Int) := IntWalk.i64_in _ (by omega)
        refine wp_region_still_tail 15 (by kernel_rfl) (by kernel_rfl) ?_
        change wpStill _ _ (w3.setCell ⟨gs, 4, none⟩ (.slice (some ⟨gg, 0, none⟩) (k + 1) cap2)).drew _ _ _
        rw [← HW4.out]
        simp only [List.take_succ_cons, List.take_zero, List.drop_succ_cons, List.drop_zero]
        still_step
        still_step
        still_step
        still_step
        still_step
        still_step
        still_step
        still_step
        still_step
        still_step
        still_step
        still_call HCN.out
        still_step
        still_step
        still_step
        refine wpStill_nil ?_
        change wpList _ _ _ _ _ (w3.setCell ⟨gs, 4, none⟩ (.slice (some ⟨gg, 0, none⟩) (k + 1) cap2)).drew
        rw [← HW4.out]
        clear sW s3 xk
        go_wp2_with fail
        go_roundw
        case rel =>
          refine ⟨k + 1, by omega, by go_num, ?_⟩
          have hb5 := HB4.out.put 5 (.int .i64 ((t0 : Nat) + ((pp : Nat) : Int)))
          refine ⟨⟨_, ?_, own_fr HO4.out ((Fr.refl [gs] w4).setCell (by simp) _) (fun j hj hx => HGG.out j hj (by simpa using hx))⟩, ⟨_, HC4.out.far (p := ⟨gs, 5, none⟩) (Ne.symm hne) _, by simpa using HCS.out.2⟩, fun i hi => ?_, HF4.out.setCell (.inr HN1.out) _, HN1.out, HN2.out⟩
          · rw [HPP.out]
            exact hb5
          · rw [(HC4.out.far (p := ⟨gs, 5, none⟩) (Ne.symm hne) _).cell i]
            by_cases hik : i = k
            · subst hik
              have hk2 : i < cs2.size := by have := HCS.out.2; omega
              refine ⟨y2, ?_, wd_mix_to HY2.out⟩
              rw [Array.getElem?_setIfInBounds]
              simp [hk2]
            · obtain ⟨x', hx', hw'⟩ := HVV.out i hi
              refine ⟨x', ?_, wd_mix_far hw' hik⟩
              rw [Array.getElem?_setIfInBounds, if_neg (fun e => hik e.symm), Array.getElem?_setIfInBounds, if_neg (fun e => hik e.symm), ← HCS.out.1.cell i]
              exact hx'
        case measure => simp [intOf]; omega
    · obtain rfl : k = m := by omega
      go_wp2_with fail
      go_ret2
      rw [HMS.out]
      exact ⟨gs, bs, cap, rfl, HX1.out⟩
end Go.Proofs.YtheiacfdbhjbmaaDoor
