/-
  Bag: begin's walk.
-/
import Derived.Test.YtdjaalkbpdmdgaaGreatBgT8
import Derived.Deep.RegionHeld3
import Derived.Deep.CutRange
namespace Go.Proofs.YtdjaalkbpdmdgaaGreat
open Go.RowKit
set_option linter.unusedVariables false

theorem sk_nil {g n : Nat} (h : n ≤ g) : ∀ x ∈ skT g nilS, n ≤ x := fun x hx => by
  have : x = g := by simpa [skT, nilS, Value.ownBlock] using hx
  omega
theorem rw_nil {g n : Nat} (h : n ≤ g) : ∀ x ∈ rwT g nilS nilS, n ≤ x := fun x hx => by
  have : x = g := by simpa [rwT, nilS, Value.ownBlock] using hx
  omega

set_option maxRecDepth 100000 in
set_option maxHeartbeats 6400000 in
theorem begin_any (w0 : World) (one two : Int) (orig : Nat → Int) (ho0 : orig 0 = one) (ho1 : orig 1 = two) :
    Calls Tryz.prog 10 #[.int .i64 one, .int .i64 two] w0 fun e w' => ∃ gd gm, e = .returned (.tuple #[.pointer (some ⟨gd, 0, none⟩), .bool true]) ∧ BI w0 gd gm orig 2 w' := by
  have HSTART : Hid (BI w0 w0.heap.size (w0.heap.size + 1) orig 0 ((w0.alloc (.cells (deskA fun _ => .pointer none) 52)).alloc (.cells (mostA orig) 53))) := by
    have s1 := (Sg.none w0).box 52 (deskA fun _ => .pointer none)
    have s2 := s1.box 53 (mostA orig)
    have e : (w0.alloc (.cells (deskA fun _ => .pointer none) 52)).heap.size = w0.heap.size + 1 := by simp
    rw [e] at s2
    exact ⟨fun _ _ => 0, _, _, _, s2, rfl, rfl, rfl, fun i hi => absurd hi (by omega), fun i _ => rfl⟩
  have hdesk : deskA (fun _ => .pointer none) = #[.pointer none, .pointer none, .pointer none, .pointer none, .pointer none, .pointer none, .pointer none, .pointer none, .pointer none, .pointer none, .pointer none, .pointer none, .pointer none, .pointer none, .pointer none, .pointer none, .pointer none, .pointer none, .pointer none, .pointer none] := rfl
  have hmost : mostA orig = #[.int .i64 one, .int .i64 two] := by unfold mostA; rw [ho0, ho1]
  rw [hdesk, hmost] at HSTART
  clear hdesk hmost ho0 ho1
  obtain ⟨gd, hgd⟩ : ∃ gd, w0.heap.size = gd := ⟨_, rfl⟩
  obtain ⟨gm, hgm⟩ : ∃ gm, gd + 1 = gm := ⟨_, rfl⟩
  have HGM := Lib.hid hgm
  have HGD := Lib.hid hgd
  clear hgm
  go_enter Tryz.func10, Tryz.ntmps10
  go_upto_region 3 with fail
  obtain ⟨wb, hwb⟩ : ∃ wb, (w0.alloc (.cells #[.pointer none, .pointer none, .pointer none, .pointer none, .pointer none, .pointer none, .pointer none, .pointer none, .pointer none, .pointer none, .pointer none, .pointer none, .pointer none, .pointer none, .pointer none, .pointer none, .pointer none, .pointer none, .pointer none, .pointer none] 52)).alloc (.cells #[.int .i64 one, .int .i64 two] 53) = wb := ⟨_, rfl⟩
  have HS : Hid (BI w0 gd gm orig 0 wb) := by
    have := HSTART.out
    rw [hwb, hgd, HGM.out] at this
    exact this
  rw [hwb, HGM.out]
  clear hwb hgd HSTART
  go_wp2_with fail
  go_loopw [8] (fun j wr => ∃ k : Nat, k ≤ 2 ∧ j = .int .i64 k ∧ Hid (BI w0 gd gm orig k wr)) (fun j _ => 2 - (intOf j).toNat)
  case atStart => exact ⟨0, by omega, rfl, HS.out⟩
  case round =>
    obtain ⟨k, hk, rfl, HX⟩ := hrel
    by_cases hlt : k < 2
    · obtain ⟨pt, Ts, f, m, x1, x2, x3, x4, x5, x6⟩ := HX.out
      have HPT := Lib.hid x5
      have HMO := Lib.hid x6
      have HTL := Lib.hid x2
      have h2s : Hid (2 ≤ Ts.length) := by show 2 ≤ Ts.length; omega
      have HB0 : Hid (BJ w0 gd gm Ts [] f m wr) := ⟨Ts, x1, by simp, fun _ _ _ => rfl, x3, x4, fun j t ht => by simp at ht⟩
      have i0 : (0 : Int) ≤ (k : Int) := by omega
      have i1 : (k : Int) < 2 := by omega
      have i2 : decide ((k : Int) < 2) = true := decide_eq_true i1
      obtain ⟨a, hmk⟩ : ∃ a, orig k = a := ⟨_, rfl⟩
      have hma : m k = a := by rw [x6 k (Nat.le_refl _)]; exact hmk
      have HMK := Lib.hid hmk
      have HMA := Lib.hid hma
      have c0 : wr.cell? ⟨gm, k, none⟩ = some (.int .i64 a) := by rw [(HB0.out.mcell hlt).1, hma]
      clear x1 x2 x3 x4 x5 x6 hmk hma
      by_cases ha : a < 0
      · have d0 : decide (a < 0) = true := decide_eq_true ha
        have HAA : Hid (moOf a = 0) := by show moOf a = 0; unfold moOf; rw [if_pos ha]
        obtain ⟨mb, hmb⟩ : ∃ mb : Nat → Int, (fun j => if j = k then 0 else m j) = mb := ⟨_, rfl⟩
        have HM2 : Hid (mb k = 0) := by show mb k = 0; rw [← hmb]; simp
        have HMB := Lib.hid hmb
        clear hmb
        go_wp2_with fail
        refine (rbadN a wr ha).mono ?_
        rintro e zr ⟨rfl, rfl⟩
        go_wp2_with fail
        refine (stack_bad a wr ha).mono ?_
        rintro e zr ⟨rfl, rfl⟩
        go_wp2_with fail
        refine (queue_bad a wr ha).mono ?_
        rintro e zr ⟨rfl, rfl⟩
        go_wp2_with fail
        refine (textq_bad a wr ha).mono ?_
        rintro e zr ⟨rfl, rfl⟩
        go_wp2_with fail
        refine (num_any 10 wr).mono ?_
        rintro e zn ⟨rfl, rfl⟩
        go_wp2_with fail
        refine (num_any 10 wr).mono ?_
        rintro e zn ⟨rfl, rfl⟩
        go_wp2_with fail
        refine (num_any 10 wr).mono ?_
        rintro e zn ⟨rfl, rfl⟩
        have fz : wr.frozen? ⟨gm, k, none⟩ = false := (HB0.out.mcell hlt).2
        obtain ⟨zm, hz⟩ : ∃ z, wr.setCell ⟨gm, k, none⟩ (.int .i64 0) = z := ⟨_, rfl⟩
        have HBr : Hid (BJ w0 gd gm Ts [] f mb zm) := by have := HB0.out.most h2s.out hlt 0; rw [hz, HMB.out] at this; exact this
        go_upto_region 14 with fail
        try rw [hz]
        clear hz fz c0
        go_wp2_with fail
        refine (stack_new w0.heap.size 0 zm (by omega) HBr.out.fr0.size).mono ?_
        rintro e z0b ⟨g0, rfl, hs, hf, hg⟩
        have HB1 : Hid (BJ w0 gd gm Ts [thSk 121 w0.heap.size g0 0 nilS []] f mb z0b) := HBr.out.push h2s.out hf hs (sk_nil hg)
        clear hs hf hg
        go_wp2_with fail
        refine (queue_new w0.heap.size 0 z0b (by omega) HB1.out.fr0.size).mono ?_
        rintro e z1b ⟨g1, rfl, hs, hf, hg⟩
        have HB2 : Hid (BJ w0 gd gm Ts [thSk 121 w0.heap.size g0 0 nilS [], thSk 122 w0.heap.size g1 0 nilS []] f mb z1b) := HB1.out.push h2s.out hf hs (sk_nil hg)
        clear hs hf hg
        go_wp2_with fail
        refine (textq_new w0.heap.size 0 z1b (by omega) HB2.out.fr0.size).mono ?_
        rintro e z2b ⟨g2, rfl, hs, hf, hg⟩
        have HB3 : Hid (BJ w0 gd gm Ts [thSk 121 w0.heap.size g0 0 nilS [], thSk 122 w0.heap.size g1 0 nilS [], thSx 124 w0.heap.size g2 0 nilS []] f mb z2b) := HB2.out.push h2s.out hf hs (sk_nil hg)
        clear hs hf hg
        go_upto_region 17 with fail
        obtain ⟨e1, e2⟩ := HB3.out.dcell (x := k) (by omega)
        obtain ⟨y0b, hz⟩ : ∃ z, z2b.setCell ⟨gd, k, none⟩ (ptV g0) = z := ⟨_, rfl⟩
        obtain ⟨f0, hq⟩ : ∃ q, upd f (k) (ptV g0) = q := ⟨_, rfl⟩
        have HU0 := Lib.hid hq
        have HD0 : Hid (BJ w0 gd gm Ts [thSk 121 w0.heap.size g0 0 nilS [], thSk 122 w0.heap.size g1 0 nilS [], thSx 124 w0.heap.size g2 0 nilS []] f0 mb y0b) := by have := HB3.out.desk h2s.out (k) (ptV g0); rw [hz, hq] at this; exact this
        unfold ptV at hz
        go_upto_region 18 with fail
        try rw [hz]
        clear hz hq e1 e2
        go_upto_region 18 with fail
        obtain ⟨e1, e2⟩ := HD0.out.dcell (x := 2 + k) (by omega)
        obtain ⟨y1b, hz⟩ : ∃ z, y0b.setCell ⟨gd, 2 + k, none⟩ (ptV g1) = z := ⟨_, rfl⟩
        obtain ⟨f1, hq⟩ : ∃ q, upd f0 (2 + k) (ptV g1) = q := ⟨_, rfl⟩
        have HU1 := Lib.hid hq
        have HD1 : Hid (BJ w0 gd gm Ts [thSk 121 w0.heap.size g0 0 nilS [], thSk 122 w0.heap.size g1 0 nilS [], thSx 124 w0.heap.size g2 0 nilS []] f1 mb y1b) := by have := HD0.out.desk h2s.out (2 + k) (ptV g1); rw [hz, hq] at this; exact this
        unfold ptV at hz
        go_upto_region 19 with fail
        try rw [hz]
        clear hz hq e1 e2
        go_upto_region 19 with fail
        obtain ⟨e1, e2⟩ := HD1.out.dcell (x := 4 + k) (by omega)
        obtain ⟨y2b, hz⟩ : ∃ z, y1b.setCell ⟨gd, 4 + k, none⟩ (ptV g2) = z := ⟨_, rfl⟩
        obtain ⟨f2, hq⟩ : ∃ q, upd f1 (4 + k) (ptV g2) = q := ⟨_, rfl⟩
        have HU2 := Lib.hid hq
        have HD2 : Hid (BJ w0 gd gm Ts [thSk 121 w0.heap.size g0 0 nilS [], thSk 122 w0.heap.size g1 0 nilS [], thSx 124 w0.heap.size g2 0 nilS []] f2 mb y2b) := by have := HD1.out.desk h2s.out (4 + k) (ptV g2); rw [hz, hq] at this; exact this
        unfold ptV at hz
        go_upto_region 20 with fail
        try rw [hz]
        clear hz hq e1 e2
        have HKD : Hid (∀ Z, Fr [] y2b.drew Z → Z.cell? ⟨gd, 6 + k, none⟩ = some (f2 (6 + k)) ∧ Z.frozen? ⟨gd, 6 + k, none⟩ = false) := fun Z hf => ((HD2.out.nil ((Fr.refl [] y2b).drew)).nil hf).dcell (by omega)
        have HBS := Lib.hid (HD2.out.nil ((Fr.refl [] y2b).drew)).fr0.size
        go_cut [] from 125 to 130 (fun wx => Hid (∃ g3 f3, Hid (upd f2 (6 + k) (ptV g3) = f3) ∧ Hid (BJ w0 gd gm Ts [thSk 121 w0.heap.size g0 0 nilS [], thSk 122 w0.heap.size g1 0 nilS [], thSx 124 w0.heap.size g2 0 nilS [], thTbN w0.heap.size g3 nilS []] f3 mb wx)))
        case first =>
           go_region_with (go_at_call 17; refine (tbN_new w0.heap.size _ HBS.out).mono ?_; rintro en zz ⟨g3, rfl, hs, hf, hg⟩; obtain ⟨e1, e2⟩ := HKD.out zz hf)
           all_goals
            have hX := ((HD2.out.nil ((Fr.refl [] y2b).drew)).push (t := thTbN w0.heap.size g3 nilS []) h2s.out hf hs (sk_nil hg)).desk h2s.out (6 + k) (ptV g3)
            try go_wp2_with fail
            go_meet
            case rel => first | exact Lib.hid ⟨g3, _, rfl, hX⟩ | exact Lib.hid ⟨g3, _, rfl, hX.nil ((Fr.refl _ _).drew)⟩
        obtain ⟨g3, f3, HU3, HD3⟩ := hcut.out
        clear hcut
        clear HKD HBS
        go_upto_region 21 with fail
        have HKD : Hid (∀ Z, Fr [] wc.drew Z → Z.cell? ⟨gd, 8 + k, none⟩ = some (f3 (8 + k)) ∧ Z.frozen? ⟨gd, 8 + k, none⟩ = false) := fun Z hf => ((HD3.out.nil ((Fr.refl [] wc).drew)).nil hf).dcell (by omega)
        have HBS := Lib.hid (HD3.out.nil ((Fr.refl [] wc).drew)).fr0.size
        go_cut [] from 131 to 136 (fun wx => Hid (∃ g4 f4, Hid (upd f3 (8 + k) (ptV g4) = f4) ∧ Hid (BJ w0 gd gm Ts [thSk 121 w0.heap.size g0 0 nilS [], thSk 122 w0.heap.size g1 0 nilS [], thSx 124 w0.heap.size g2 0 nilS [], thTbN w0.heap.size g3 nilS [], thTbT w0.heap.size g4 nilS []] f4 mb wx)))
        case first =>
           go_region_with (go_at_call 18; refine (tbT_new w0.heap.size _ HBS.out).mono ?_; rintro en zz ⟨g4, rfl, hs, hf, hg⟩; obtain ⟨e1, e2⟩ := HKD.out zz hf)
           all_goals
            have hX := ((HD3.out.nil ((Fr.refl [] wc).drew)).push (t := thTbT w0.heap.size g4 nilS []) h2s.out hf hs (sk_nil hg)).desk h2s.out (8 + k) (ptV g4)
            try go_wp2_with fail
            go_meet
            case rel => first | exact Lib.hid ⟨g4, _, rfl, hX⟩ | exact Lib.hid ⟨g4, _, rfl, hX.nil ((Fr.refl _ _).drew)⟩
        obtain ⟨g4, f4, HU4, HD4⟩ := hcut.out
        clear hcut
        clear HKD HBS
        have e1 : wc.cell? ⟨gd, 6 + k, none⟩ = some (.pointer (some ⟨g3, 0, none⟩)) := by rw [(HD4.out.dcell (x := 6 + k) (by omega)).1, ← HU4.out, upd_ne (by omega), ← HU3.out, upd_eq]; rfl
        have e2 : wc.cell? ⟨gd, 8 + k, none⟩ = some (.pointer (some ⟨g4, 0, none⟩)) := by rw [(HD4.out.dcell (x := 8 + k) (by omega)).1, ← HU4.out, upd_eq]; rfl
        go_upto_region 24 with fail
        clear e1 e2
        have HKD : Hid (∀ Z, Fr [] wc.drew Z → Z.cell? ⟨gm, k, none⟩ = some (.int .i64 0) ∧ Z.cell? ⟨gd, 10 + k, none⟩ = some (f4 (10 + k)) ∧ Z.frozen? ⟨gd, 10 + k, none⟩ = false) := fun Z hf => by have hb := (HD4.out.nil ((Fr.refl [] wc).drew)).nil hf; exact ⟨by rw [(hb.mcell hlt).1, HM2.out], hb.dcell (by omega)⟩
        have HBS := Lib.hid (HD4.out.nil ((Fr.refl [] wc).drew)).fr0.size
        have e0 : wc.cell? ⟨gm, k, none⟩ = some (.int .i64 0) := (HKD.out _ (Fr.refl _ _)).1
        go_cut [] from 165 to 176 (fun wx => Hid (∃ g5 f5, Hid (upd f4 (10 + k) (ptV g5) = f5) ∧ Hid (BJ w0 gd gm Ts [thSk 121 w0.heap.size g0 0 nilS [], thSk 122 w0.heap.size g1 0 nilS [], thSx 124 w0.heap.size g2 0 nilS [], thTbN w0.heap.size g3 nilS [], thTbT w0.heap.size g4 nilS [], thNb 77 3 w0.heap.size g5 nilS 0 []] f5 mb wx)))
        case first =>
           go_region_with (go_at_call 12; refine (rnewN w0.heap.size 0 _ (by omega) HBS.out).mono ?_; rintro en zz ⟨g5, rfl, hs, hf, hg⟩; obtain ⟨_, e1, e2⟩ := HKD.out zz hf)
           all_goals
            have hX := ((HD4.out.nil ((Fr.refl [] wc).drew)).push (t := thNb 77 3 w0.heap.size g5 nilS 0 []) h2s.out hf hs (sk_nil hg)).desk h2s.out (10 + k) (ptV g5)
            try go_wp2_with fail
            go_meet
            case rel => first | exact Lib.hid ⟨g5, _, rfl, hX⟩ | exact Lib.hid ⟨g5, _, rfl, hX.nil ((Fr.refl _ _).drew)⟩
        obtain ⟨g5, f5, HU5, HD5⟩ := hcut.out
        clear hcut
        clear HKD HBS e0
        go_upto_region 25 with fail
        have HKD : Hid (∀ Z, Fr [] wc.drew Z → Z.cell? ⟨gm, k, none⟩ = some (.int .i64 0) ∧ Z.cell? ⟨gd, 12 + k, none⟩ = some (f5 (12 + k)) ∧ Z.frozen? ⟨gd, 12 + k, none⟩ = false) := fun Z hf => by have hb := (HD5.out.nil ((Fr.refl [] wc).drew)).nil hf; exact ⟨by rw [(hb.mcell hlt).1, HM2.out], hb.dcell (by omega)⟩
        have HBS := Lib.hid (HD5.out.nil ((Fr.refl [] wc).drew)).fr0.size
        have e0 : wc.cell? ⟨gm, k, none⟩ = some (.int .i64 0) := (HKD.out _ (Fr.refl _ _)).1
        go_cut [] from 177 to 188 (fun wx => Hid (∃ g6 f6, Hid (upd f5 (12 + k) (ptV g6) = f6) ∧ Hid (BJ w0 gd gm Ts [thSk 121 w0.heap.size g0 0 nilS [], thSk 122 w0.heap.size g1 0 nilS [], thSx 124 w0.heap.size g2 0 nilS [], thTbN w0.heap.size g3 nilS [], thTbT w0.heap.size g4 nilS [], thNb 77 3 w0.heap.size g5 nilS 0 [], thNb 77 3 w0.heap.size g6 nilS 0 []] f6 mb wx)))
        case first =>
           go_region_with (go_at_call 12; refine (rnewN w0.heap.size 0 _ (by omega) HBS.out).mono ?_; rintro en zz ⟨g6, rfl, hs, hf, hg⟩; obtain ⟨_, e1, e2⟩ := HKD.out zz hf)
           all_goals
            have hX := ((HD5.out.nil ((Fr.refl [] wc).drew)).push (t := thNb 77 3 w0.heap.size g6 nilS 0 []) h2s.out hf hs (sk_nil hg)).desk h2s.out (12 + k) (ptV g6)
            try go_wp2_with fail
            go_meet
            case rel => first | exact Lib.hid ⟨g6, _, rfl, hX⟩ | exact Lib.hid ⟨g6, _, rfl, hX.nil ((Fr.refl _ _).drew)⟩
        obtain ⟨g6, f6, HU6, HD6⟩ := hcut.out
        clear hcut
        clear HKD HBS e0
        go_upto_region 26 with fail
        have HKD : Hid (∀ Z, Fr [] wc.drew Z → Z.cell? ⟨gm, k, none⟩ = some (.int .i64 0) ∧ Z.cell? ⟨gd, 14 + k, none⟩ = some (f6 (14 + k)) ∧ Z.frozen? ⟨gd, 14 + k, none⟩ = false) := fun Z hf => by have hb := (HD6.out.nil ((Fr.refl [] wc).drew)).nil hf; exact ⟨by rw [(hb.mcell hlt).1, HM2.out], hb.dcell (by omega)⟩
        have HBS := Lib.hid (HD6.out.nil ((Fr.refl [] wc).drew)).fr0.size
        have e0 : wc.cell? ⟨gm, k, none⟩ = some (.int .i64 0) := (HKD.out _ (Fr.refl _ _)).1
        go_cut [] from 189 to 200 (fun wx => Hid (∃ g7 f7, Hid (upd f6 (14 + k) (ptV g7) = f7) ∧ Hid (BJ w0 gd gm Ts [thSk 121 w0.heap.size g0 0 nilS [], thSk 122 w0.heap.size g1 0 nilS [], thSx 124 w0.heap.size g2 0 nilS [], thTbN w0.heap.size g3 nilS [], thTbT w0.heap.size g4 nilS [], thNb 77 3 w0.heap.size g5 nilS 0 [], thNb 77 3 w0.heap.size g6 nilS 0 [], thNb 79 9 w0.heap.size g7 nilS 0 []] f7 mb wx)))
        case first =>
           go_region_with (go_at_call 19; refine (rnewT w0.heap.size 0 _ (by omega) HBS.out).mono ?_; rintro en zz ⟨g7, rfl, hs, hf, hg⟩; obtain ⟨_, e1, e2⟩ := HKD.out zz hf)
           all_goals
            have hX := ((HD6.out.nil ((Fr.refl [] wc).drew)).push (t := thNb 79 9 w0.heap.size g7 nilS 0 []) h2s.out hf hs (sk_nil hg)).desk h2s.out (14 + k) (ptV g7)
            try go_wp2_with fail
            go_meet
            case rel => first | exact Lib.hid ⟨g7, _, rfl, hX⟩ | exact Lib.hid ⟨g7, _, rfl, hX.nil ((Fr.refl _ _).drew)⟩
        obtain ⟨g7, f7, HU7, HD7⟩ := hcut.out
        clear hcut
        clear HKD HBS e0
        go_upto_region 27 with fail
        obtain ⟨g8, hg⟩ : ∃ g, wc.heap.size = g := ⟨_, rfl⟩
        obtain ⟨e1, e2⟩ := HD7.out.dcell (x := 16 + k) (by omega)
        have hgl : gd < g8 := by rw [← hg]; obtain ⟨T, t1, t2, t3, t4, t5⟩ := HD7.out; exact (t1.bk t4).lt
        obtain ⟨e3, e4⟩ := (HD7.out.nil ((Fr.refl [] wc).alloc (.cells #[.slice none 0 0, .slice none 0 0] 71))).dcell (x := 16 + k) (by omega)
        obtain ⟨y8b, hz⟩ : ∃ z, ((wc.setCell ⟨gd, 16 + k, none⟩ (ptV g8)).alloc (.cells #[.slice none 0 0, .slice none 0 0] 71)) = z := ⟨_, rfl⟩
        obtain ⟨f8, hq⟩ : ∃ q, upd f7 (16 + k) (ptV g8) = q := ⟨_, rfl⟩
        have HU8 := Lib.hid hq
        have HD8 : Hid (BJ w0 gd gm Ts [thSk 121 w0.heap.size g0 0 nilS [], thSk 122 w0.heap.size g1 0 nilS [], thSx 124 w0.heap.size g2 0 nilS [], thTbN w0.heap.size g3 nilS [], thTbT w0.heap.size g4 nilS [], thNb 77 3 w0.heap.size g5 nilS 0 [], thNb 77 3 w0.heap.size g6 nilS 0 [], thNb 79 9 w0.heap.size g7 nilS 0 [], thRw 71 3 29 w0.heap.size g8 nilS nilS [] []] f8 mb y8b) := by have := (HD7.out.desk h2s.out (16 + k) (ptV g8)).push (t := thRw 71 3 29 w0.heap.size g8 nilS nilS [] []) h2s.out ((Fr.refl _ _).alloc (.cells #[.slice none 0 0, .slice none 0 0] 71)) ⟨Bk.new_at _ _ _ _ (by simp; exact hg), Lst.nil _ _ _ _, Lst.nil _ _ _ _, by rw [← hg]; exact HD7.out.fr0.size⟩ (rw_nil (by simp; omega)); rw [hz, hq] at this; exact this
        unfold ptV at hz
        go_upto_region 28 with fail
        try rw [hg]
        try rw [hz]
        clear hz hq e1 e2 e3 e4 hg hgl
        obtain ⟨g9, hg⟩ : ∃ g, y8b.heap.size = g := ⟨_, rfl⟩
        obtain ⟨e1, e2⟩ := HD8.out.dcell (x := 18 + k) (by omega)
        have hgl : gd < g9 := by rw [← hg]; obtain ⟨T, t1, t2, t3, t4, t5⟩ := HD8.out; exact (t1.bk t4).lt
        obtain ⟨e3, e4⟩ := (HD8.out.nil ((Fr.refl [] y8b).alloc (.cells #[.slice none 0 0, .slice none 0 0] 74))).dcell (x := 18 + k) (by omega)
        obtain ⟨y9b, hz⟩ : ∃ z, ((y8b.setCell ⟨gd, 18 + k, none⟩ (ptV g9)).alloc (.cells #[.slice none 0 0, .slice none 0 0] 74)) = z := ⟨_, rfl⟩
        obtain ⟨f9, hq⟩ : ∃ q, upd f8 (18 + k) (ptV g9) = q := ⟨_, rfl⟩
        have HU9 := Lib.hid hq
        have HD9 : Hid (BJ w0 gd gm Ts [thSk 121 w0.heap.size g0 0 nilS [], thSk 122 w0.heap.size g1 0 nilS [], thSx 124 w0.heap.size g2 0 nilS [], thTbN w0.heap.size g3 nilS [], thTbT w0.heap.size g4 nilS [], thNb 77 3 w0.heap.size g5 nilS 0 [], thNb 77 3 w0.heap.size g6 nilS 0 [], thNb 79 9 w0.heap.size g7 nilS 0 [], thRw 71 3 29 w0.heap.size g8 nilS nilS [] [], thRw 74 9 3 w0.heap.size g9 nilS nilS [] []] f9 mb y9b) := by have := (HD8.out.desk h2s.out (18 + k) (ptV g9)).push (t := thRw 74 9 3 w0.heap.size g9 nilS nilS [] []) h2s.out ((Fr.refl _ _).alloc (.cells #[.slice none 0 0, .slice none 0 0] 74)) ⟨Bk.new_at _ _ _ _ (by simp; exact hg), Lst.nil _ _ _ _, Lst.nil _ _ _ _, by rw [← hg]; exact HD8.out.fr0.size⟩ (rw_nil (by simp; omega)); rw [hz, hq] at this; exact this
        unfold ptV at hz
        go_wp2_with fail
        try rw [hg]
        try rw [hz]
        clear hz hq e1 e2 e3 e4 hg hgl
        have HEQ : Hid (f9 = upd (upd (upd (upd (upd (upd (upd (upd (upd (upd f k (ptV g0)) (2 + k) (ptV g1)) (4 + k) (ptV g2)) (6 + k) (ptV g3)) (8 + k) (ptV g4)) (10 + k) (ptV g5)) (12 + k) (ptV g6)) (14 + k) (ptV g7)) (16 + k) (ptV g8)) (18 + k) (ptV g9)) := by
          show f9 = _
          rw [HU0.out, HU1.out, HU2.out, HU3.out, HU4.out, HU5.out, HU6.out, HU7.out, HU8.out, HU9.out]
        have HFIN : Hid (BI w0 gd gm orig (k + 1) y9b) := by
          obtain ⟨r1, r2⟩ := round_desk hlt HEQ.out
          refine BJ.round (ps := [g0, g1, g2, g3, g4, g5, g6, g7, g8, g9]) (f' := f9) (m' := mb) hlt ?_ HTL.out HPT.out r1 r2 (fun i hik => ?_)
          · rw [HMK.out, HAA.out]
            exact HD9.out
          · rw [← HMB.out]
            show (if i = k then 0 else m i) = orig i
            rw [if_neg (by omega)]
            exact HMO.out i (by omega)
        go_roundw
        case rel => exact ⟨k + 1, by omega, by go_num, HFIN.out⟩
        case measure => simp [intOf]; omega

      · have d0 : decide (a < 0) = false := decide_eq_false ha
        have HAA : Hid (moOf a = a) := by show moOf a = a; unfold moOf; rw [if_neg ha]
        have HM2 : Hid (m k = a) := HMA.out
        go_wp2_with fail
        refine (rnewN w0.heap.size a wr (by omega) HB0.out.fr0.size).mono ?_
        rintro e zr ⟨gx, rfl, hs, hf, hg⟩
        have HBr : Hid (BJ w0 gd gm Ts [] f m zr) := HB0.out.nil hf
        have c1 : zr.cell? ⟨gm, k, none⟩ = some (.int .i64 a) := by rw [(HBr.out.mcell hlt).1, HMA.out]
        clear hs hf hg c0
        go_wp2_with fail
        refine (stack_new w0.heap.size a zr (by omega) HBr.out.fr0.size).mono ?_
        rintro e z0g ⟨g0, rfl, hs, hf, hg⟩
        have HB1 : Hid (BJ w0 gd gm Ts [thSk 121 w0.heap.size g0 a nilS []] f m z0g) := HBr.out.push h2s.out hf hs (sk_nil hg)
        have c2 : z0g.cell? ⟨gm, k, none⟩ = some (.int .i64 a) := by rw [(HB1.out.mcell hlt).1, HMA.out]
        clear hs hf hg c1
        go_wp2_with fail
        refine (queue_new w0.heap.size a z0g (by omega) HB1.out.fr0.size).mono ?_
        rintro e z1g ⟨g1, rfl, hs, hf, hg⟩
        have HB2 : Hid (BJ w0 gd gm Ts [thSk 121 w0.heap.size g0 a nilS [], thSk 122 w0.heap.size g1 a nilS []] f m z1g) := HB1.out.push h2s.out hf hs (sk_nil hg)
        have c3 : z1g.cell? ⟨gm, k, none⟩ = some (.int .i64 a) := by rw [(HB2.out.mcell hlt).1, HMA.out]
        clear hs hf hg c2
        go_wp2_with fail
        refine (textq_new w0.heap.size a z1g (by omega) HB2.out.fr0.size).mono ?_
        rintro e z2g ⟨g2, rfl, hs, hf, hg⟩
        have HB3 : Hid (BJ w0 gd gm Ts [thSk 121 w0.heap.size g0 a nilS [], thSk 122 w0.heap.size g1 a nilS [], thSx 124 w0.heap.size g2 a nilS []] f m z2g) := HB2.out.push h2s.out hf hs (sk_nil hg)
        have c4 : z2g.cell? ⟨gm, k, none⟩ = some (.int .i64 a) := by rw [(HB3.out.mcell hlt).1, HMA.out]
        clear hs hf hg c3
        go_wp2_with fail
        clear c4
        refine (num_any 0 z2g).mono ?_
        rintro e zn ⟨rfl, rfl⟩
        go_wp2_with fail
        refine (num_any 0 z2g).mono ?_
        rintro e zn ⟨rfl, rfl⟩
        go_wp2_with fail
        refine (num_any 0 z2g).mono ?_
        rintro e zn ⟨rfl, rfl⟩
        go_upto_region 17 with fail
        obtain ⟨e1, e2⟩ := HB3.out.dcell (x := k) (by omega)
        obtain ⟨y0g, hz⟩ : ∃ z, z2g.setCell ⟨gd, k, none⟩ (ptV g0) = z := ⟨_, rfl⟩
        obtain ⟨f0, hq⟩ : ∃ q, upd f (k) (ptV g0) = q := ⟨_, rfl⟩
        have HU0 := Lib.hid hq
        have HD0 : Hid (BJ w0 gd gm Ts [thSk 121 w0.heap.size g0 a nilS [], thSk 122 w0.heap.size g1 a nilS [], thSx 124 w0.heap.size g2 a nilS []] f0 m y0g) := by have := HB3.out.desk h2s.out (k) (ptV g0); rw [hz, hq] at this; exact this
        unfold ptV at hz
        go_upto_region 18 with fail
        try rw [hz]
        clear hz hq e1 e2
        go_upto_region 18 with fail
        obtain ⟨e1, e2⟩ := HD0.out.dcell (x := 2 + k) (by omega)
        obtain ⟨y1g, hz⟩ : ∃ z, y0g.setCell ⟨gd, 2 + k, none⟩ (ptV g1) = z := ⟨_, rfl⟩
        obtain ⟨f1, hq⟩ : ∃ q, upd f0 (2 + k) (ptV g1) = q := ⟨_, rfl⟩
        have HU1 := Lib.hid hq
        have HD1 : Hid (BJ w0 gd gm Ts [thSk 121 w0.heap.size g0 a nilS [], thSk 122 w0.heap.size g1 a nilS [], thSx 124 w0.heap.size g2 a nilS []] f1 m y1g) := by have := HD0.out.desk h2s.out (2 + k) (ptV g1); rw [hz, hq] at this; exact this
        unfold ptV at hz
        go_upto_region 19 with fail
        try rw [hz]
        clear hz hq e1 e2
        go_upto_region 19 with fail
        obtain ⟨e1, e2⟩ := HD1.out.dcell (x := 4 + k) (by omega)
        obtain ⟨y2g, hz⟩ : ∃ z, y1g.setCell ⟨gd, 4 + k, none⟩ (ptV g2) = z := ⟨_, rfl⟩
        obtain ⟨f2, hq⟩ : ∃ q, upd f1 (4 + k) (ptV g2) = q := ⟨_, rfl⟩
        have HU2 := Lib.hid hq
        have HD2 : Hid (BJ w0 gd gm Ts [thSk 121 w0.heap.size g0 a nilS [], thSk 122 w0.heap.size g1 a nilS [], thSx 124 w0.heap.size g2 a nilS []] f2 m y2g) := by have := HD1.out.desk h2s.out (4 + k) (ptV g2); rw [hz, hq] at this; exact this
        unfold ptV at hz
        go_upto_region 20 with fail
        try rw [hz]
        clear hz hq e1 e2
        have HKD : Hid (∀ Z, Fr [] y2g.drew Z → Z.cell? ⟨gd, 6 + k, none⟩ = some (f2 (6 + k)) ∧ Z.frozen? ⟨gd, 6 + k, none⟩ = false) := fun Z hf => ((HD2.out.nil ((Fr.refl [] y2g).drew)).nil hf).dcell (by omega)
        have HBS := Lib.hid (HD2.out.nil ((Fr.refl [] y2g).drew)).fr0.size
        go_cut [] from 125 to 130 (fun wx => Hid (∃ g3 f3, Hid (upd f2 (6 + k) (ptV g3) = f3) ∧ Hid (BJ w0 gd gm Ts [thSk 121 w0.heap.size g0 a nilS [], thSk 122 w0.heap.size g1 a nilS [], thSx 124 w0.heap.size g2 a nilS [], thTbN w0.heap.size g3 nilS []] f3 m wx)))
        case first =>
           go_region_with (go_at_call 17; refine (tbN_new w0.heap.size _ HBS.out).mono ?_; rintro en zz ⟨g3, rfl, hs, hf, hg⟩; obtain ⟨e1, e2⟩ := HKD.out zz hf)
           all_goals
            have hX := ((HD2.out.nil ((Fr.refl [] y2g).drew)).push (t := thTbN w0.heap.size g3 nilS []) h2s.out hf hs (sk_nil hg)).desk h2s.out (6 + k) (ptV g3)
            try go_wp2_with fail
            go_meet
            case rel => first | exact Lib.hid ⟨g3, _, rfl, hX⟩ | exact Lib.hid ⟨g3, _, rfl, hX.nil ((Fr.refl _ _).drew)⟩
        obtain ⟨g3, f3, HU3, HD3⟩ := hcut.out
        clear hcut
        clear HKD HBS
        go_upto_region 21 with fail
        have HKD : Hid (∀ Z, Fr [] wc.drew Z → Z.cell? ⟨gd, 8 + k, none⟩ = some (f3 (8 + k)) ∧ Z.frozen? ⟨gd, 8 + k, none⟩ = false) := fun Z hf => ((HD3.out.nil ((Fr.refl [] wc).drew)).nil hf).dcell (by omega)
        have HBS := Lib.hid (HD3.out.nil ((Fr.refl [] wc).drew)).fr0.size
        go_cut [] from 131 to 136 (fun wx => Hid (∃ g4 f4, Hid (upd f3 (8 + k) (ptV g4) = f4) ∧ Hid (BJ w0 gd gm Ts [thSk 121 w0.heap.size g0 a nilS [], thSk 122 w0.heap.size g1 a nilS [], thSx 124 w0.heap.size g2 a nilS [], thTbN w0.heap.size g3 nilS [], thTbT w0.heap.size g4 nilS []] f4 m wx)))
        case first =>
           go_region_with (go_at_call 18; refine (tbT_new w0.heap.size _ HBS.out).mono ?_; rintro en zz ⟨g4, rfl, hs, hf, hg⟩; obtain ⟨e1, e2⟩ := HKD.out zz hf)
           all_goals
            have hX := ((HD3.out.nil ((Fr.refl [] wc).drew)).push (t := thTbT w0.heap.size g4 nilS []) h2s.out hf hs (sk_nil hg)).desk h2s.out (8 + k) (ptV g4)
            try go_wp2_with fail
            go_meet
            case rel => first | exact Lib.hid ⟨g4, _, rfl, hX⟩ | exact Lib.hid ⟨g4, _, rfl, hX.nil ((Fr.refl _ _).drew)⟩
        obtain ⟨g4, f4, HU4, HD4⟩ := hcut.out
        clear hcut
        clear HKD HBS
        have e1 : wc.cell? ⟨gd, 6 + k, none⟩ = some (.pointer (some ⟨g3, 0, none⟩)) := by rw [(HD4.out.dcell (x := 6 + k) (by omega)).1, ← HU4.out, upd_ne (by omega), ← HU3.out, upd_eq]; rfl
        have e2 : wc.cell? ⟨gd, 8 + k, none⟩ = some (.pointer (some ⟨g4, 0, none⟩)) := by rw [(HD4.out.dcell (x := 8 + k) (by omega)).1, ← HU4.out, upd_eq]; rfl
        go_upto_region 24 with fail
        clear e1 e2
        have HKD : Hid (∀ Z, Fr [] wc.drew Z → Z.cell? ⟨gm, k, none⟩ = some (.int .i64 a) ∧ Z.cell? ⟨gd, 10 + k, none⟩ = some (f4 (10 + k)) ∧ Z.frozen? ⟨gd, 10 + k, none⟩ = false) := fun Z hf => by have hb := (HD4.out.nil ((Fr.refl [] wc).drew)).nil hf; exact ⟨by rw [(hb.mcell hlt).1, HM2.out], hb.dcell (by omega)⟩
        have HBS := Lib.hid (HD4.out.nil ((Fr.refl [] wc).drew)).fr0.size
        have e0 : wc.cell? ⟨gm, k, none⟩ = some (.int .i64 a) := (HKD.out _ (Fr.refl _ _)).1
        go_cut [] from 165 to 176 (fun wx => Hid (∃ g5 f5, Hid (upd f4 (10 + k) (ptV g5) = f5) ∧ Hid (BJ w0 gd gm Ts [thSk 121 w0.heap.size g0 a nilS [], thSk 122 w0.heap.size g1 a nilS [], thSx 124 w0.heap.size g2 a nilS [], thTbN w0.heap.size g3 nilS [], thTbT w0.heap.size g4 nilS [], thNb 77 3 w0.heap.size g5 nilS a []] f5 m wx)))
        case first =>
           go_region_with (go_at_call 12; refine (rnewN w0.heap.size a _ (by omega) HBS.out).mono ?_; rintro en zz ⟨g5, rfl, hs, hf, hg⟩; obtain ⟨_, e1, e2⟩ := HKD.out zz hf)
           all_goals
            have hX := ((HD4.out.nil ((Fr.refl [] wc).drew)).push (t := thNb 77 3 w0.heap.size g5 nilS a []) h2s.out hf hs (sk_nil hg)).desk h2s.out (10 + k) (ptV g5)
            try go_wp2_with fail
            go_meet
            case rel => first | exact Lib.hid ⟨g5, _, rfl, hX⟩ | exact Lib.hid ⟨g5, _, rfl, hX.nil ((Fr.refl _ _).drew)⟩
        obtain ⟨g5, f5, HU5, HD5⟩ := hcut.out
        clear hcut
        clear HKD HBS e0
        go_upto_region 25 with fail
        have HKD : Hid (∀ Z, Fr [] wc.drew Z → Z.cell? ⟨gm, k, none⟩ = some (.int .i64 a) ∧ Z.cell? ⟨gd, 12 + k, none⟩ = some (f5 (12 + k)) ∧ Z.frozen? ⟨gd, 12 + k, none⟩ = false) := fun Z hf => by have hb := (HD5.out.nil ((Fr.refl [] wc).drew)).nil hf; exact ⟨by rw [(hb.mcell hlt).1, HM2.out], hb.dcell (by omega)⟩
        have HBS := Lib.hid (HD5.out.nil ((Fr.refl [] wc).drew)).fr0.size
        have e0 : wc.cell? ⟨gm, k, none⟩ = some (.int .i64 a) := (HKD.out _ (Fr.refl _ _)).1
        go_cut [] from 177 to 188 (fun wx => Hid (∃ g6 f6, Hid (upd f5 (12 + k) (ptV g6) = f6) ∧ Hid (BJ w0 gd gm Ts [thSk 121 w0.heap.size g0 a nilS [], thSk 122 w0.heap.size g1 a nilS [], thSx 124 w0.heap.size g2 a nilS [], thTbN w0.heap.size g3 nilS [], thTbT w0.heap.size g4 nilS [], thNb 77 3 w0.heap.size g5 nilS a [], thNb 77 3 w0.heap.size g6 nilS a []] f6 m wx)))
        case first =>
           go_region_with (go_at_call 12; refine (rnewN w0.heap.size a _ (by omega) HBS.out).mono ?_; rintro en zz ⟨g6, rfl, hs, hf, hg⟩; obtain ⟨_, e1, e2⟩ := HKD.out zz hf)
           all_goals
            have hX := ((HD5.out.nil ((Fr.refl [] wc).drew)).push (t := thNb 77 3 w0.heap.size g6 nilS a []) h2s.out hf hs (sk_nil hg)).desk h2s.out (12 + k) (ptV g6)
            try go_wp2_with fail
            go_meet
            case rel => first | exact Lib.hid ⟨g6, _, rfl, hX⟩ | exact Lib.hid ⟨g6, _, rfl, hX.nil ((Fr.refl _ _).drew)⟩
        obtain ⟨g6, f6, HU6, HD6⟩ := hcut.out
        clear hcut
        clear HKD HBS e0
        go_upto_region 26 with fail
        have HKD : Hid (∀ Z, Fr [] wc.drew Z → Z.cell? ⟨gm, k, none⟩ = some (.int .i64 a) ∧ Z.cell? ⟨gd, 14 + k, none⟩ = some (f6 (14 + k)) ∧ Z.frozen? ⟨gd, 14 + k, none⟩ = false) := fun Z hf => by have hb := (HD6.out.nil ((Fr.refl [] wc).drew)).nil hf; exact ⟨by rw [(hb.mcell hlt).1, HM2.out], hb.dcell (by omega)⟩
        have HBS := Lib.hid (HD6.out.nil ((Fr.refl [] wc).drew)).fr0.size
        have e0 : wc.cell? ⟨gm, k, none⟩ = some (.int .i64 a) := (HKD.out _ (Fr.refl _ _)).1
        go_cut [] from 189 to 200 (fun wx => Hid (∃ g7 f7, Hid (upd f6 (14 + k) (ptV g7) = f7) ∧ Hid (BJ w0 gd gm Ts [thSk 121 w0.heap.size g0 a nilS [], thSk 122 w0.heap.size g1 a nilS [], thSx 124 w0.heap.size g2 a nilS [], thTbN w0.heap.size g3 nilS [], thTbT w0.heap.size g4 nilS [], thNb 77 3 w0.heap.size g5 nilS a [], thNb 77 3 w0.heap.size g6 nilS a [], thNb 79 9 w0.heap.size g7 nilS a []] f7 m wx)))
        case first =>
           go_region_with (go_at_call 19; refine (rnewT w0.heap.size a _ (by omega) HBS.out).mono ?_; rintro en zz ⟨g7, rfl, hs, hf, hg⟩; obtain ⟨_, e1, e2⟩ := HKD.out zz hf)
           all_goals
            have hX := ((HD6.out.nil ((Fr.refl [] wc).drew)).push (t := thNb 79 9 w0.heap.size g7 nilS a []) h2s.out hf hs (sk_nil hg)).desk h2s.out (14 + k) (ptV g7)
            try go_wp2_with fail
            go_meet
            case rel => first | exact Lib.hid ⟨g7, _, rfl, hX⟩ | exact Lib.hid ⟨g7, _, rfl, hX.nil ((Fr.refl _ _).drew)⟩
        obtain ⟨g7, f7, HU7, HD7⟩ := hcut.out
        clear hcut
        clear HKD HBS e0
        go_upto_region 27 with fail
        obtain ⟨g8, hg⟩ : ∃ g, wc.heap.size = g := ⟨_, rfl⟩
        obtain ⟨e1, e2⟩ := HD7.out.dcell (x := 16 + k) (by omega)
        have hgl : gd < g8 := by rw [← hg]; obtain ⟨T, t1, t2, t3, t4, t5⟩ := HD7.out; exact (t1.bk t4).lt
        obtain ⟨e3, e4⟩ := (HD7.out.nil ((Fr.refl [] wc).alloc (.cells #[.slice none 0 0, .slice none 0 0] 71))).dcell (x := 16 + k) (by omega)
        obtain ⟨y8g, hz⟩ : ∃ z, ((wc.setCell ⟨gd, 16 + k, none⟩ (ptV g8)).alloc (.cells #[.slice none 0 0, .slice none 0 0] 71)) = z := ⟨_, rfl⟩
        obtain ⟨f8, hq⟩ : ∃ q, upd f7 (16 + k) (ptV g8) = q := ⟨_, rfl⟩
        have HU8 := Lib.hid hq
        have HD8 : Hid (BJ w0 gd gm Ts [thSk 121 w0.heap.size g0 a nilS [], thSk 122 w0.heap.size g1 a nilS [], thSx 124 w0.heap.size g2 a nilS [], thTbN w0.heap.size g3 nilS [], thTbT w0.heap.size g4 nilS [], thNb 77 3 w0.heap.size g5 nilS a [], thNb 77 3 w0.heap.size g6 nilS a [], thNb 79 9 w0.heap.size g7 nilS a [], thRw 71 3 29 w0.heap.size g8 nilS nilS [] []] f8 m y8g) := by have := (HD7.out.desk h2s.out (16 + k) (ptV g8)).push (t := thRw 71 3 29 w0.heap.size g8 nilS nilS [] []) h2s.out ((Fr.refl _ _).alloc (.cells #[.slice none 0 0, .slice none 0 0] 71)) ⟨Bk.new_at _ _ _ _ (by simp; exact hg), Lst.nil _ _ _ _, Lst.nil _ _ _ _, by rw [← hg]; exact HD7.out.fr0.size⟩ (rw_nil (by simp; omega)); rw [hz, hq] at this; exact this
        unfold ptV at hz
        go_upto_region 28 with fail
        try rw [hg]
        try rw [hz]
        clear hz hq e1 e2 e3 e4 hg hgl
        obtain ⟨g9, hg⟩ : ∃ g, y8g.heap.size = g := ⟨_, rfl⟩
        obtain ⟨e1, e2⟩ := HD8.out.dcell (x := 18 + k) (by omega)
        have hgl : gd < g9 := by rw [← hg]; obtain ⟨T, t1, t2, t3, t4, t5⟩ := HD8.out; exact (t1.bk t4).lt
        obtain ⟨e3, e4⟩ := (HD8.out.nil ((Fr.refl [] y8g).alloc (.cells #[.slice none 0 0, .slice none 0 0] 74))).dcell (x := 18 + k) (by omega)
        obtain ⟨y9g, hz⟩ : ∃ z, ((y8g.setCell ⟨gd, 18 + k, none⟩ (ptV g9)).alloc (.cells #[.slice none 0 0, .slice none 0 0] 74)) = z := ⟨_, rfl⟩
        obtain ⟨f9, hq⟩ : ∃ q, upd f8 (18 + k) (ptV g9) = q := ⟨_, rfl⟩
        have HU9 := Lib.hid hq
        have HD9 : Hid (BJ w0 gd gm Ts [thSk 121 w0.heap.size g0 a nilS [], thSk 122 w0.heap.size g1 a nilS [], thSx 124 w0.heap.size g2 a nilS [], thTbN w0.heap.size g3 nilS [], thTbT w0.heap.size g4 nilS [], thNb 77 3 w0.heap.size g5 nilS a [], thNb 77 3 w0.heap.size g6 nilS a [], thNb 79 9 w0.heap.size g7 nilS a [], thRw 71 3 29 w0.heap.size g8 nilS nilS [] [], thRw 74 9 3 w0.heap.size g9 nilS nilS [] []] f9 m y9g) := by have := (HD8.out.desk h2s.out (18 + k) (ptV g9)).push (t := thRw 74 9 3 w0.heap.size g9 nilS nilS [] []) h2s.out ((Fr.refl _ _).alloc (.cells #[.slice none 0 0, .slice none 0 0] 74)) ⟨Bk.new_at _ _ _ _ (by simp; exact hg), Lst.nil _ _ _ _, Lst.nil _ _ _ _, by rw [← hg]; exact HD8.out.fr0.size⟩ (rw_nil (by simp; omega)); rw [hz, hq] at this; exact this
        unfold ptV at hz
        go_wp2_with fail
        try rw [hg]
        try rw [hz]
        clear hz hq e1 e2 e3 e4 hg hgl
        have HEQ : Hid (f9 = upd (upd (upd (upd (upd (upd (upd (upd (upd (upd f k (ptV g0)) (2 + k) (ptV g1)) (4 + k) (ptV g2)) (6 + k) (ptV g3)) (8 + k) (ptV g4)) (10 + k) (ptV g5)) (12 + k) (ptV g6)) (14 + k) (ptV g7)) (16 + k) (ptV g8)) (18 + k) (ptV g9)) := by
          show f9 = _
          rw [HU0.out, HU1.out, HU2.out, HU3.out, HU4.out, HU5.out, HU6.out, HU7.out, HU8.out, HU9.out]
        have HFIN : Hid (BI w0 gd gm orig (k + 1) y9g) := by
          obtain ⟨r1, r2⟩ := round_desk hlt HEQ.out
          refine BJ.round (ps := [g0, g1, g2, g3, g4, g5, g6, g7, g8, g9]) (f' := f9) (m' := m) hlt ?_ HTL.out HPT.out r1 r2 (fun i hik => ?_)
          · rw [HMK.out, HAA.out]
            exact HD9.out
          · exact HMO.out i (by omega)
        go_roundw
        case rel => exact ⟨k + 1, by omega, by go_num, HFIN.out⟩
        case measure => simp [intOf]; omega

    · obtain rfl : k = 2 := by omega
      go_wp2_with fail
      go_ret2
      exact ⟨gd, gm, rfl, HX.out⟩
end Go.Proofs.YtdjaalkbpdmdgaaGreat
