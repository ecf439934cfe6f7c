/-
  Marks: the statement MarksStays.
-/
import Derived.Test.YtheiacfdbhjbmaaDoorMk10
namespace Go.Proofs.YtheiacfdbhjbmaaDoor
open Go.RowKit Mk
set_option linter.unusedVariables false

/-- What the slide tells of the questions. -/
def askd (F : Nat → Bool) (words : Nat) (l : List Int) (k : Nat) : List Value := (l.take k).map (fun x => .int .i64 (toI F 0 words 5 x))
theorem askd_succ (F : Nat → Bool) (words : Nat) (l : List Int) {k : Nat} {x : Int} (h : l[k]? = some x) : askd F words l (k + 1) = askd F words l k ++ [.int .i64 (toI F 0 words 5 x)] := by
  obtain ⟨hlt, hx⟩ := List.getElem?_eq_some_iff.1 h
  unfold askd
  rw [List.take_succ_eq_append_getElem hlt, List.map_append, hx]
  rfl
theorem askd_at (F : Nat → Bool) (words : Nat) (l : List Int) {k i : Nat} {x : Int} (hi : i < k) (h : l[i]? = some x) : (askd F words l k)[i]? = some (.int .i64 (toI F 0 words 5 x)) := by
  unfold askd
  rw [List.getElem?_map, List.getElem?_take, if_pos hi, h]
  rfl
theorem cntI_none (size : Nat) (a b : Int) : cntI (fun _ => false) size a b = 0 := by
  unfold cntI
  generalize highI b size - lowI a = n
  generalize lowI a = s
  induction n with
  | zero => rfl
  | succ n ih => rw [cnt_add (fun _ => false) s n 1, ih]; rfl

/-- The slide, what was noted, and all that stays while the map turns. -/
structure Kept (w4 : World) (g gb gs bs words m cap : Nat) (sv : Value) (F : Nat → Bool) (v : Value) (K : Nat) (l : List Int) : Prop where
  S : SlideIs w4 gs bs 0 words 5 m cap sv F
  L : Lst w4 0 3 1 v K (askd F words l K)
  n1 : gs ≠ gb
  n2 : bs ≠ gb
  n3 : ∀ k, sv.ownBlock = some k → k ∉ [gb]
  n4 : ∀ k, v.ownBlock = some k → k ∉ [gb]
theorem Kept.fr {w4 w' : World} {g gb gs bs words m cap : Nat} {sv : Value} {F : Nat → Bool} {v : Value} {K : Nat} {l : List Int} (h : Kept w4 g gb gs bs words m cap sv F v K l) (hf : Fr [gb] w4 w') : Kept w' g gb gs bs words m cap sv F v K l :=
  ⟨h.S.fr hf (by simpa using h.n1) (by simpa using h.n2) h.n3, h.L.fr hf h.n4, h.n1, h.n2, h.n3, h.n4⟩

set_option maxRecDepth 100000 in
theorem stays_none (words : Int) (A1 A2 A3 : Option Addr) (n1 c1 n2 c2 n3 c3 : Nat) (l1 : List Int) (w : World) (hw : ¬ (0 ≤ words ∧ words ≤ 8192)) (hO : On w) :
    Calls Tryd.prog 3 #[.int .i64 words, .slice A1 n1 c1, .slice A2 n2 c2, .slice A3 n3 c3] w fun e w' => e = .returned (.bool true) ∧ Fr [] w w' := by
  have HO := Lib.hid hO
  clear hO
  go_enter Tryd.func3, Tryd.ntmps3
  go_wp2_with fail
  refine (known_any w HO.out).mono ?_
  rintro e w1 ⟨rfl, hf1⟩
  have HF1 := Lib.hid hf1
  clear hf1
  go_wp2_with fail
  refine (filled_none words A1 n1 c1 l1 w1 hw).mono ?_
  rintro e w2 ⟨rfl, hf2⟩
  have HF2 := Lib.hid (HF1.out.trans hf2 (by simp))
  clear hf2
  go_wp2_with fail
  go_ret
  exact ⟨rfl, HF2.out⟩

set_option maxRecDepth 100000 in
set_option maxHeartbeats 3200000 in
theorem stays_any (words : Nat) (A1 A2 A3 : Option Addr) (n1 c1 n2 c2 n3 c3 : Nat) (l1 l2 l3 : List Int) (w : World) (hw : words ≤ 8192) (h1 : n1 = l1.length) (r1 : RdI w A1 l1) (b1 : ∀ x ∈ l1, x ≤ 9223372036854775807)
    (h2 : n2 = l2.length) (r2 : RdI w A2 l2) (b2 : ∀ x ∈ l2, x ≤ 9223372036854775807) (h3 : n3 = l3.length) (r3 : RdI w A3 l3) (hO : On w) :
    Calls Tryd.prog 3 #[.int .i64 words, .slice A1 n1 c1, .slice A2 n2 c2, .slice A3 n3 c3] w fun e w' => e = .returned (.bool true) ∧ Fr [] w w' := by
  subst h2
  subst h3
  obtain ⟨i2, hi2, hz2, hs2, hb2⟩ := info_parts int_info
  have hl2 := r2.1
  have hl3 := r3.1
  have HO := Lib.hid hO
  have H1 := Lib.hid (And.intro h1 (And.intro r1 b1))
  have R2 := Lib.hid r2
  have B2 := Lib.hid b2
  have R3 := Lib.hid r3
  obtain ⟨K, hK⟩ : ∃ K, min l3.length 300 = K := ⟨_, rfl⟩
  have hKl : K ≤ l3.length := by omega
  have hK3 : K ≤ 300 := by omega
  have hKe : K = l3.length ∨ K = 300 := by omega
  clear hO h1 r1 b1 r2 b2 r3 hK
  go_enter Tryd.func3, Tryd.ntmps3
  go_wp2_with fail
  refine (known_any w HO.out).mono ?_
  rintro e w1 ⟨rfl, hf1⟩
  have HF1 := Lib.hid hf1
  clear hf1
  go_wp2_with fail
  refine (filled_some words A1 n1 c1 l1 w1 hw H1.out.1 (H1.out.2.1.fr HF1.out (by simp)) H1.out.2.2 (HO.out.fr HF1.out (by simp))).mono ?_
  rintro e w2 ⟨g, gb, rfl, hf2, hg, hgb, hM⟩
  have HF2 := Lib.hid (HF1.out.trans hf2 (by simp))
  obtain ⟨F, hF⟩ : ∃ F, fillF words l1 (pairsN l1) = F := ⟨_, rfl⟩
  rw [hF] at hM
  have HM2 := Lib.hid hM
  have HGB : Hid (w.heap.size ≤ gb) := Nat.le_trans HF1.out.size hgb
  have HGL : Hid (gb < w2.heap.size) := by obtain ⟨cs, hcs, _⟩ := hM.W; exact hcs.lt
  clear hf2 hg hgb hM hF
  go_wp2_with fail
  refine (slide_is g gb words F 0 words 5 w2 HM2.out (HO.out.fr HF2.out (by simp)) (by omega) (by omega) (by omega)).mono ?_
  rintro e w3 ⟨gs, bs, cap, sv, rfl, hS, hf3, hgs, hbs, hsv⟩
  have HS3 := Lib.hid hS
  have HF3 := Lib.hid (HF2.out.trans hf3 (by simp))
  have HM3 := Lib.hid (HM2.out.fr hf3 (by simp) (by simp))
  have HBS : Hid (bs ≠ gb) := by have := HGL.out; show bs ≠ gb; omega
  clear hS hf3 hgs hbs hsv
  go_wp2_with fail
  refine (slide_is g gb words F 0 words 5 w3 HM3.out (HO.out.fr HF3.out (by simp)) (by omega) (by omega) (by omega)).mono ?_
  rintro e w4 ⟨gs2, bs2, cap2, sv2, rfl, hS, hf4, hgs, hbs, hsv⟩
  have HT4 := Lib.hid hS
  have HS4 := Lib.hid (HS3.out.fr hf4 (by simp) (by simp) (by simp))
  have HF4 := Lib.hid (HF3.out.trans hf4 (by simp))
  have HM4 := Lib.hid (HM3.out.fr hf4 (by simp) (by simp))
  clear hS hf4 hgs hbs hsv HM2 HM3 HS3 HF2 HF3
  obtain ⟨F5, hF5⟩ : ∃ F5, cutF F 0 words = F5 := ⟨_, rfl⟩
  rw [hF5] at HS4 HT4
  clear hF5
  go_wp2_with fail
  refine (num_any 0 w4).mono ?_
  rintro e w5 ⟨rfl, rfl⟩
  go_wp2_with fail
  refine (num_any 0 w4).mono ?_
  rintro e w5 ⟨rfl, rfl⟩
  go_upto_region 12 with fail
  go_loopw [15, 16] (fun u i wr => ∃ k : Nat, k ≤ K ∧ i = .int .i64 k ∧ Hid (Lst wr w4.heap.size 3 1 u k (askd F5 words l3 k) ∧ Fr [] w4 wr)) (fun _ i _ => 302 - (intOf i).toNat)
  case atStart => exact ⟨0, by omega, rfl, Lst.nil _ _ _ _, Fr.refl _ _⟩
  case round =>
    obtain ⟨k, hk, rfl, hx⟩ := hrel
    have HL := Lib.hid hx.out.1
    have HW := Lib.hid hx.out.2
    have hsz4 := hx.out.2.size
    clear hx
    go_upto_region 12 with fail
    go_cut [77] (fun c wx => c = .bool (decide (k < K)) ∧ wr = wx)
    case first =>
      go_wp2_with fail
      all_goals
        go_meet
        case rel => exact ⟨by simp; omega, rfl⟩
    obtain ⟨rfl, rfl⟩ := hcut
    by_cases hlt : k < K
    · have d : decide (k < K) = true := by simpa using hlt
      rw [d]
      obtain ⟨bb, oo, rfl, hbb, hc⟩ := (R3.out.fr (HF4.out.trans HW.out (by simp)) (by simp)).2 (by omega)
      obtain ⟨x, hx⟩ : ∃ x, l3[k]? = some x := ⟨_, List.getElem?_eq_getElem (by omega)⟩
      have cx := hc k x hx
      have k0 : (0 : Int) ≤ (k : Int) := by omega
      have k1 : (k : Int) < (l3.length : Int) := by omega
      have HX := Lib.hid hx
      clear hc hx d
      go_wp2_with fail
      refine (to_any gs2 bs2 0 words 5 _ cap2 sv2 F5 x wr (HT4.out.fr HW.out (by simp) (by simp) (by simp)) (HO.out.fr (HF4.out.trans HW.out (by simp)) (by simp))).mono ?_
      rintro e w6 ⟨rfl, q6, hw6⟩
      have hf6 : Fr [] wr w6 := by rw [hw6]; exact (Fr.refl _ _).drewN _
      have HL6 := Lib.hid (HL.out.fr hf6 (by simp))
      have HW6 := Lib.hid (HW.out.trans hf6 (by simp))
      have hsz6 := HW6.out.size
      clear hw6 hf6 HL HW cx
      obtain ⟨Au, capu, rfl, _, _⟩ := HL6.out.look
      go_wp2_with (at_builtin; refine wpList_append_lst _ rfl (.tmp 89) (.tmp 91) _ rfl w4.heap.size 3 i2 _ 1 8 Tryd.underlying22 hi2 hz2 hs2 hb2 rfl _ k (askd F5 words l3 k) rfl (HL6.out.alloc _) ⟨w6.heap.size, 0, none⟩ 1 1 [.int .i64 (toI F5 0 words 5 x)] rfl rfl (World.news_of_block (heap_alloc_new _ _)) ?c2 ?c3 ?c4 ?c5 ?c6)
      case c2 => simp [Value.oneCell']
      case c3 => unfold maxLen; omega
      case c4 => omega
      case c5 => simp; omega
      case c6 =>
        intro v2 w7 hown hgrow hat
        have HL7 : Hid (Lst w7 w4.heap.size 3 1 v2 (k + 1) (askd F5 words l3 (k + 1))) := by
          rw [askd_succ F5 words l3 HX.out]
          exact hown
        have hfr : Fr (Value.slice Au k capu).ownBlock.toList w6 w7 := ((Fr.refl _ _).alloc _).grown hgrow (fun j hj => .inl (by simp [hj]))
        have HW7 : Hid (Fr [] w4 w7) := HW6.out.trans hfr (fun j hj => .inr ((HL6.out.lt j (by simpa using hj)).1))
        clear hown hgrow hat hfr
        go_wp2
        go_roundw
        case rel => exact ⟨k + 1, by omega, by go_num, HL7.out, HW7.out⟩
        case measure => simp [intOf]; omega
    have d : decide (k < K) = false := by simpa using hlt
    rw [d]
    have hkK : k = K := by omega
    rw [hkK] at HL
    clear hkK hlt d hk
    obtain ⟨T, hT⟩ : ∃ T, cnt F5 0 (64 * nums words) = T := ⟨_, rfl⟩
    have HT := Lib.hid hT
    clear hT
    obtain ⟨Au, capu, rfl, _, _⟩ := HL.out.look
    have HKE : Hid (Kept wr g gb gs bs words (nums words) cap sv F5 (.slice Au K capu) K l3) := by
      have h1 := HS4.out.fr HW.out (by simp) (by simp) (by simp)
      have h2 := HM4.out.fr HW.out (by simp) (by simp)
      obtain ⟨cs, hcs, _⟩ := h2.W
      refine ⟨h1, HL.out.mono (Nat.zero_le _), h1.B.ne hcs (by decide), HBS.out, fun k hk hx => ?_, fun k hk hx => ?_⟩
      · exact (Lst.of_own h1.S).ne_bk hcs (by decide) k hk (by simpa using hx)
      · exact HL.out.ne_bk hcs (by decide) k hk (by simpa using hx)
    have HM5 := Lib.hid (HM4.out.fr HW.out (by simp) (by simp))
    have HF5 := Lib.hid (HF4.out.trans HW.out (by simp))
    have HT5 := Lib.hid (HT4.out.fr HW.out (by simp) (by simp) (by simp))
    obtain ⟨w5, hw5⟩ : ∃ w5, w5 = wr := ⟨_, rfl⟩
    rw [← hw5] at HKE HM5 HF5 HT5 ⊢
    clear hw5 HL HW HT4 HS4 HM4 HF4 hsz4
    go_wp2_with fail
    refine (total_any gs2 bs2 0 words 5 _ cap2 sv2 F5 w5 HT5.out).mono ?_
    rintro e w6 ⟨rfl, rfl⟩
    rw [HT.out]
    go_upto_region 18 with fail
    go_loopw [20] (fun i wr => ∃ (j : Nat) (F' : Nat → Bool), j ≤ 301 ∧ i = .int .i64 j ∧ Hid (MapIs wr g gb words F' ∧ Fr [gb] w5 wr)) (fun i _ => 302 - (intOf i).toNat)
    case atStart => exact ⟨0, F, by omega, rfl, HM5.out, Fr.refl _ _⟩
    case round =>
      obtain ⟨j, F', hj, rfl, hx⟩ := hrel
      have HM := Lib.hid hx.out.1
      have HW := Lib.hid hx.out.2
      clear hx
      go_upto_region 18 with fail
      go_cut [103] (fun c wx => c = .bool (decide (j + 1 < l2.length ∧ j < 300)) ∧ wr = wx)
      case first =>
        go_wp2_with fail
        all_goals
          go_meet
          case rel => exact ⟨congrArg Value.bool (by first | exact decide_eq_decide.2 (by omega) | exact (decide_eq_false (by omega)).symm), rfl⟩
      obtain ⟨rfl, rfl⟩ := hcut
      by_cases hlt : j + 1 < l2.length ∧ j < 300
      · have d : decide (j + 1 < l2.length ∧ j < 300) = true := by simpa using hlt
        rw [d]
        obtain ⟨j1, j2⟩ := hlt
        have HFw : Hid (Fr [] w wr) := HF5.out.trans HW.out (fun x hx => .inr (by have : x = gb := (by simpa using hx); subst this; exact HGB.out))
        obtain ⟨bb, oo, rfl, hbb, hc⟩ := (R2.out.fr HFw.out (by simp)).2 (by omega)
        obtain ⟨x, hx⟩ : ∃ x, l2[j]? = some x := ⟨_, List.getElem?_eq_getElem (by omega)⟩
        obtain ⟨y, hy⟩ : ∃ y, l2[j + 1]? = some y := ⟨_, List.getElem?_eq_getElem (by omega)⟩
        obtain ⟨z, hz⟩ : ∃ z, z = wr.drew := ⟨_, rfl⟩
        have cx : z.cell? ⟨bb, oo + j, none⟩ = some (.int .i64 x) := by rw [hz]; exact hc j x hx
        have cy : z.cell? ⟨bb, oo + (j + 1), none⟩ = some (.int .i64 y) := by rw [hz]; exact hc (j + 1) y hy
        have hxb := B2.out x (List.mem_of_getElem? hx)
        have hyb := B2.out y (List.mem_of_getElem? hy)
        have HMz : Hid (MapIs z g gb words F') := by subst hz; exact HM.out.fr ((Fr.refl [] _).drew) (by simp) (by simp)
        have HWz : Hid (Fr [gb] w5 z) := by subst hz; exact HW.out.drew
        have HFz : Hid (Fr [] w z) := by subst hz; exact HFw.out.drew
        have HZ := Lib.hid hz
        have i0 : (0 : Int) ≤ (j : Int) := by omega
        have i1 : (j : Int) < (l2.length : Int) := by omega
        have i2' : (j : Int) + 1 < (l2.length : Int) := by omega
        have i3 : (0 : Int) ≤ (j : Int) + 1 := by omega
        have i4 : IntKind.i64.wrap ((j : Int) + 1) = (j : Int) + 1 := IntWalk.i64_in _ (by omega)
        have i5 : ((j : Int) + 1).toNat = j + 1 := by omega
        clear hc hx hy d hz HM HW HFw
        go_upto_region 20 with fail
        refine wp_region_still_tail 10 (by kernel_rfl) (by kernel_rfl) ?_
        change wpStill _ _ wr.drew _ _ _
        rw [← HZ.out]
        simp only [List.take_succ_cons, List.take_zero, List.drop_succ_cons, List.drop_zero]
        repeat still_step
        refine wpStill_nil ?_
        change wpList _ _ _ _ _ wr.drew
        rw [← HZ.out]
        go_wp2_with fail
        refine (set_any g gb words F' x y z hxb hyb HMz.out (HO.out.fr HFz.out (by simp))).mono ?_
        rintro e w7 ⟨rfl, hM7, hf7⟩
        have HM7 := Lib.hid hM7
        have HW7 : Hid (Fr [gb] w5 w7) := HWz.out.trans hf7 (fun _ h => .inl h)
        clear hM7 hf7 cx cy
        go_wp2_with fail
        go_roundw
        case rel => exact ⟨j + 2, _, by omega, by go_num, HM7.out, HW7.out⟩
        case measure => simp [intOf]; omega
      have d : decide (j + 1 < l2.length ∧ j < 300) = false := by simpa using hlt
      rw [d]
      clear hlt d hj
      obtain ⟨w6, hw6⟩ : ∃ w6, w6 = wr := ⟨_, rfl⟩
      have HKE6 := Lib.hid (HKE.out.fr HW.out)
      have HF6 : Hid (Fr [] w wr) := HF5.out.trans HW.out (fun x hx => .inr (by have : x = gb := (by simpa using hx); subst this; exact HGB.out))
      rw [← hw6] at HKE6 HF6 HM ⊢
      clear hw6 HKE HF5 HT5 HM5 HW
      go_upto_region 22 with fail
      go_loopw [21] (fun i wr => ∃ (j : Nat), j ≤ K ∧ i = .int .i64 j ∧ Hid (Fr [] w6 wr)) (fun i _ => 302 - (intOf i).toNat)
      case atStart => exact ⟨0, by omega, rfl, Fr.refl _ _⟩
      case round =>
        obtain ⟨j, hj, rfl, hx⟩ := hrel
        have HW := Lib.hid hx.out
        clear hx
        have HKx := Lib.hid (HKE6.out.fr (HW.out.mono (by simp)))
        have HFx := Lib.hid (HF6.out.trans HW.out (by simp))
        by_cases hlt : j < K
        · have d : (j : Int) < (K : Int) := by omega
          obtain ⟨bb, oo, rfl, hbb, hc⟩ := (R3.out.fr HFx.out (by simp)).2 (by omega)
          obtain ⟨x, hx⟩ : ∃ x, l3[j]? = some x := ⟨_, List.getElem?_eq_getElem (by omega)⟩
          have cx := hc j x hx
          have j0 : (0 : Int) ≤ (j : Int) := by omega
          have j1 : (j : Int) < (l3.length : Int) := by omega
          have HX := Lib.hid hx
          clear hc hx
          go_wp2_with fail
          refine (to_any gs bs 0 words 5 _ cap sv F5 x wr HKx.out.S (HO.out.fr HFx.out (by simp))).mono ?_
          rintro e w7 ⟨rfl, q7, hw7⟩
          have hf7 : Fr [] wr w7 := by rw [hw7]; exact (Fr.refl _ _).drewN _
          have HW7 := Lib.hid (HW.out.trans hf7 (by simp))
          obtain ⟨g3, o3, c3', hv, _, hg3, _, _, _, _, hcell⟩ := (HKx.out.fr (hf7.mono (by simp))).L.form (by omega)
          injection hv with hv1 _ hv3
          subst hv1
          have cu := hcell j _ (askd_at F5 words l3 hlt HX.out)
          obtain ⟨X, hX⟩ : ∃ X, toI F5 0 words 5 x = X := ⟨_, rfl⟩
          rw [hX] at cu ⊢
          have hne : (X != X) = false := by simp
          clear hw7 hf7 hcell hv3 cx hX
          go_wp2_with fail
          go_roundw
          case rel => exact ⟨j + 1, by omega, by go_num, HW7.out⟩
          case measure => simp [intOf]; omega
        have d : ¬ (j : Int) < (K : Int) := by omega
        obtain ⟨w7, hw7⟩ : ∃ w7, w7 = wr := ⟨_, rfl⟩
        have HM7 := Lib.hid (HM.out.fr HW.out (by simp) (by simp))
        rw [← hw7] at HKx HFx HM7 ⊢
        clear hw7 HKE6 HF6 HM HW hlt hj
        go_wp2_with fail
        refine (clear_any g gb words F' w7 HM7.out).mono ?_
        rintro e w8 ⟨rfl, hM8, hf8⟩
        have HM8 := Lib.hid hM8
        have HKE8 := Lib.hid (HKx.out.fr hf8)
        have HF8 : Hid (Fr [] w w8) := HFx.out.trans hf8 (fun x hx => .inr (by have : x = gb := (by simpa using hx); subst this; exact HGB.out))
        clear hM8 hf8 HKx HFx HM7 d
        go_upto_region 29 with fail
        go_loopw [24] (fun i wr => ∃ (j : Nat), j ≤ K ∧ i = .int .i64 j ∧ Hid (Fr [] w8 wr)) (fun i _ => 302 - (intOf i).toNat)
        case atStart => exact ⟨0, by omega, rfl, Fr.refl _ _⟩
        case round =>
          obtain ⟨j, hj, rfl, hx⟩ := hrel
          have HW := Lib.hid hx.out
          clear hx
          have HKx := Lib.hid (HKE8.out.fr (HW.out.mono (by simp)))
          have HFx := Lib.hid (HF8.out.trans HW.out (by simp))
          by_cases hlt : j < K
          · have d : (j : Int) < (K : Int) := by omega
            obtain ⟨bb, oo, rfl, hbb, hc⟩ := (R3.out.fr HFx.out (by simp)).2 (by omega)
            obtain ⟨x, hx⟩ : ∃ x, l3[j]? = some x := ⟨_, List.getElem?_eq_getElem (by omega)⟩
            have cx := hc j x hx
            have j0 : (0 : Int) ≤ (j : Int) := by omega
            have j1 : (j : Int) < (l3.length : Int) := by omega
            have HX := Lib.hid hx
            clear hc hx
            go_wp2_with fail
            refine (to_any gs bs 0 words 5 _ cap sv F5 x wr HKx.out.S (HO.out.fr HFx.out (by simp))).mono ?_
            rintro e w7 ⟨rfl, q7, hw7⟩
            have hf7 : Fr [] wr w7 := by rw [hw7]; exact (Fr.refl _ _).drewN _
            have HW7 := Lib.hid (HW.out.trans hf7 (by simp))
            obtain ⟨g3, o3, c3', hv, _, hg3, _, _, _, _, hcell⟩ := (HKx.out.fr (hf7.mono (by simp))).L.form (by omega)
            injection hv with hv1 _ hv3
            subst hv1
            have cu := hcell j _ (askd_at F5 words l3 hlt HX.out)
            obtain ⟨X, hX⟩ : ∃ X, toI F5 0 words 5 x = X := ⟨_, rfl⟩
            rw [hX] at cu ⊢
            have hne : (X != X) = false := by simp
            clear hw7 hf7 hcell hv3 cx hX
            go_wp2_with fail
            go_roundw
            case rel => exact ⟨j + 1, by omega, by go_num, HW7.out⟩
            case measure => simp [intOf]; omega
          have d : ¬ (j : Int) < (K : Int) := by omega
          have HM9 := Lib.hid (HM8.out.fr HW.out (by simp) (by simp))
          clear HW hlt hj
          go_wp2_with fail
          refine (total_any gs bs 0 words 5 _ cap sv F5 wr HKx.out.S).mono ?_
          rintro e w9 ⟨rfl, rfl⟩
          rw [HT.out]
          have hT : ((T : Int) == (T : Int)) = true := by simp
          go_wp2_with fail
          refine (countm_any g gb words (fun _ => false) 0 words wr HM9.out (HO.out.fr HFx.out (by simp))).mono ?_
          rintro e w9 ⟨rfl, q9, hw9⟩
          rw [cntI_none]
          have HF9 : Hid (Fr [] w w9) := by rw [hw9]; exact HFx.out.drewN _
          clear hw9
          go_wp2_with fail
          go_ret
          exact ⟨rfl, HF9.out⟩
end Go.Proofs.YtheiacfdbhjbmaaDoor
