/-
  Marks: the desk's slides: a slide that is made.
-/
import Derived.Test.YtheiacfdbhjbmaaDoorMkDk4
import Derived.Test.YtheiacfdbhjbmaaDoorMk13
namespace Go.Proofs.YtheiacfdbhjbmaaDoor
open Go.RowKit Go.Shelf Mk
set_option linter.unusedVariables false

set_option maxRecDepth 100000 in
set_option maxHeartbeats 1600000 in
theorem slides_new (d g gb r rb size : Nat) (F : Nat → Bool) (sv tv : Value) (K : List Sl) (a b c : Nat) (w0 w : World) (h : Dk w0 w d g gb r rb size F sv tv K) (hab : a ≤ b) (hbs : b ≤ size) (hc : c ≤ 1048576) :
    Calls Tryd.prog 55 #[.pointer (some ⟨d, 0, none⟩), .agg #[.int .i64 8, .int .i64 a, .int .i64 b, .int .i64 c]] w (PlayOk w0 d g gb r size) := by
  obtain ⟨wa, hwa⟩ : ∃ wa, wa = w.alloc (.cells #[.int .i64 8, .int .i64 a, .int .i64 b, .int .i64 c] 72) := ⟨_, rfl⟩
  obtain ⟨hP, hD⟩ := DOp.of h hwa
  obtain ⟨ti, hti, htz, hts, htb⟩ := info_parts ptr_info
  obtain ⟨ri, hri, hrz, hrs, hrb⟩ := info_parts rptr_info
  have HWA := Lib.hid hwa
  have HP := Lib.hid (hP.fr ((Fr.refl [] _).drew) (by simp))
  have HD := Lib.hid (hD.ask ((Fr.refl [] _).drew))
  have c0 : wa.cell? ⟨w.heap.size, 0, none⟩ = some (.int .i64 8) := hP.P.cell 0
  clear h hwa hP hD
  go_enter Tryd.func55, Tryd.ntmps55
  go_upto_region 1 with fail
  rw [← HWA.out]
  go_upto_region 2 with fail
  clear c0
  go_region_held3 (fun W => W.cell? ⟨d, 0, none⟩ = some (.pointer (some ⟨g, 0, none⟩)) ∧ W.cell? ⟨w.heap.size, 1, none⟩ = some (.int .i64 a) ∧ W.cell? ⟨w.heap.size, 2, none⟩ = some (.int .i64 b) ∧ W.cell? ⟨w.heap.size, 3, none⟩ = some (.int .i64 c)) ((first | exact HP.out.e0 | exact (HP.out.fr (by assumption) (by simp)).e0))
    ((go_at_call 14; refine (slide_is g gb size F a b c _ HD.out.M HD.out.O hab hbs hc).mono ?_; rintro e w1 ⟨gs, bs, cap, sv1, rfl, hS, hf1, hgs, hbs1, hsv⟩))
  have HP1 := Lib.hid ((HP.out.fr hf1 (by simp)).fr ((Fr.refl [] _).drew) (by simp))
  have HD1 := Lib.hid ((HD.out.ask hf1).ask ((Fr.refl [] _).drew))
  have HS1 : Hid (SlideIs w1.drew gs bs a b c (nums size) cap sv1 (cutF F a b)) := hS.fr ((Fr.refl [] _).drew) (by simp) (by simp) (by simp)
  have HN1 : Hid ((∀ x ∈ gs :: bs :: sv1.ownBlock.toList, x < w1.drew.heap.size ∧ x ∉ dkT d r gb rb sv tv)) := by
    intro x hx
    have hlt := HD.out.lt
    have hx2 : wa.drew.heap.size ≤ x ∧ x < w1.heap.size := by
      simp only [List.mem_cons, Option.mem_toList] at hx
      rcases hx with rfl | rfl | hx
      · exact ⟨hgs, hS.B.lt⟩
      · exact ⟨hbs1, hS.V.lt⟩
      · exact ⟨hsv x hx, (hS.S.lt x hx).2⟩
    exact ⟨hx2.2, fun hxT => by have := hlt x hxT; omega⟩
  clear hS hf1 hgs hbs1 hsv
  go_upto_region 3 with fail
  go_region_held3 (fun W => W.cell? ⟨d, 1, none⟩ = some (.pointer (some ⟨r, 0, none⟩)) ∧ W.cell? ⟨w.heap.size, 1, none⟩ = some (.int .i64 a) ∧ W.cell? ⟨w.heap.size, 2, none⟩ = some (.int .i64 b) ∧ W.cell? ⟨w.heap.size, 3, none⟩ = some (.int .i64 c)) ((first | exact HP1.out.e1 | exact (HP1.out.fr (by assumption) (by simp)).e1))
    ((go_at_call 59; refine (rslide_ok r rb size F a b c _ HD1.out.R hab hbs hc).mono ?_; rintro e w2 ⟨rs, lv, rfl, hR, hf2, hrs1, hlv⟩))
  have HD2 := Lib.hid (HD1.out.ask hf2)
  have HSL : Hid (Sl.ok w2 size ⟨gs, bs, a, b, c, cap, sv1, cutF F a b, rs, lv⟩ ∧ ∀ x ∈ (Sl.mk gs bs a b c cap sv1 (cutF F a b) rs lv).bl, x < w2.heap.size ∧ x ∉ dkT d r gb rb sv tv) := by
    refine ⟨⟨HS1.out.fr hf2 (by simp) (by simp) (by simp), hR, fun j hj => ?_, cut_above F a b (by unfold nums; omega)⟩, fun x hx => ?_⟩
    · have hj : cutF F a b j = true := hj
      unfold cutF at hj
      simp at hj
      exact hj.2
    · have hlt := HD1.out.lt
      simp only [Sl.bl, List.mem_cons, List.mem_append, Option.mem_toList] at hx
      rcases hx with e | e | e | e | e
      · have := HN1.out x (by simp [e]); exact ⟨Nat.lt_of_lt_of_le this.1 hf2.size, this.2⟩
      · have := HN1.out x (by simp [e]); exact ⟨Nat.lt_of_lt_of_le this.1 hf2.size, this.2⟩
      · subst e; exact ⟨hR.B.lt, fun hxT => by have := hlt _ hxT; omega⟩
      · have := HN1.out x (by simp [e]); exact ⟨Nat.lt_of_lt_of_le this.1 hf2.size, this.2⟩
      · exact ⟨(hR.L.lt x e).2, fun hxT => by have := hlt _ hxT; have := hlv x e; omega⟩
  clear hR hf2 hrs1 hlv HD HP HD1 HP1 HS1 HN1
  generalize cutF F a b = G at *
  go_wp2_with fail
  refine (num_any 0 _).mono ?_
  rintro e w3 ⟨rfl, rfl⟩
  obtain ⟨k, hk⟩ : ∃ k, K.length = k := ⟨_, rfl⟩
  have hSl := HD2.out.S
  have hTl := HD2.out.T
  have hdB := HD2.out.B
  have hk6 := HD2.out.k6
  rw [hk] at hSl hTl hk6
  obtain ⟨Av, capv, rfl, _, _⟩ := hSl.look
  obtain ⟨At, capt, rfl, _, _⟩ := hTl.look
  have d2 : w2.cell? ⟨d, 2, none⟩ = some (.slice Av k capv) := hdB.cell 2
  have HK := Lib.hid hk
  have HSl := Lib.hid hSl
  have HTl := Lib.hid hTl
  have HdB := Lib.hid hdB
  obtain ⟨lS, hlS⟩ : ∃ lS, (K.map fun s => Value.pointer (some ⟨s.gs, 0, none⟩)) = lS := ⟨_, rfl⟩
  obtain ⟨lT, hlT⟩ : ∃ lT, (K.map fun s => Value.pointer (some ⟨s.rs, 0, none⟩)) = lT := ⟨_, rfl⟩
  rw [hlS] at HSl
  rw [hlT] at HTl
  have HLS := Lib.hid (And.intro hlS hlT)
  have hszw := HD2.out.F0.size
  clear hk hSl hTl hdB hlS hlT
  by_cases h6 : k < 6
  · have h6' : decide ((k : Int) < 6) = true := decide_eq_true (by omega)
    go_wp2_with (at_builtin; refine wpList_append_lst _ rfl (.tmp 75) (.tmp 77) _ rfl w0.heap.size 27 ti _ 1 8 Tryd.underlying78 hti htz hts htb rfl _ k lS rfl (HSl.out.alloc _) ⟨w2.heap.size, 0, none⟩ 1 1 [.pointer (some ⟨gs, 0, none⟩)] rfl rfl (World.news_of_block (heap_alloc_new _ _)) ?c2 ?c3 ?c4 ?c5 ?c6)
    case c2 => simp [Value.oneCell']
    case c3 => unfold maxLen; omega
    case c4 => omega
    case c5 => first | omega | (simp; omega)
    case c6 =>
      intro v2 w7 hown hgrow hat
      have hne : ∀ j, (Value.slice Av k capv).ownBlock = some j → j ≠ d := HSl.out.ne_bk HdB.out (by decide)
      have hfr : Fr (Value.slice Av k capv).ownBlock.toList w2 w7 := ((Fr.refl _ _).alloc _).grown hgrow (fun j hj => .inl (by simp [hj]))
      have HB7 := Lib.hid (HdB.out.fr hfr (fun hx => hne _ (by simpa using hx) rfl))
      have HT7 := Lib.hid (HTl.out.fr hfr (fun j hj hx => HTl.out.ne_lst HSl.out (by decide) j hj hx))
      have HF7 := Lib.hid hfr
      have HS7 : Hid (Lst w7 w0.heap.size 27 1 v2 (k + 1) (lS ++ [.pointer (some ⟨gs, 0, none⟩)])) := hown
      have HA7 : Hid (∀ x, v2.ownBlock = some x → (Value.slice Av k capv).ownBlock = some x ∨ w2.heap.size ≤ x) := fun x hx => by
        rcases hat with e | e
        · exact .inl (e ▸ hx)
        · rw [e] at hx
          injection hx with hx
          refine .inr ?_
          rw [← hx]
          simp
      have cz := HB7.out.cell 2
      have fz := HB7.out.free 2
      obtain ⟨A2, cap2, rfl, _, _⟩ := HS7.out.look
      clear hown hgrow hat hfr hne d2
      go_upto_region 8 with fail
      obtain ⟨z, hz⟩ : ∃ z, z = w7.setCell ⟨d, 2, none⟩ (.slice A2 (k + 1) cap2) := ⟨_, rfl⟩
      have hne2 : ∀ j, (Value.slice A2 (k + 1) cap2).ownBlock = some j → j ≠ d := HS7.out.ne_bk HB7.out (by decide)
      have hne3 : ∀ j, (Value.slice At k capt).ownBlock = some j → j ≠ d := HT7.out.ne_bk HB7.out (by decide)
      have HZB : Hid (Bk z d 81 #[.pointer (some ⟨g, 0, none⟩), .pointer (some ⟨r, 0, none⟩), .slice A2 (k + 1) cap2, .slice At k capt]) := by rw [hz]; exact HB7.out.put 2 _
      have HZS : Hid (Lst z w0.heap.size 27 1 (.slice A2 (k + 1) cap2) (k + 1) (lS ++ [.pointer (some ⟨gs, 0, none⟩)])) := by rw [hz]; exact HS7.out.far hne2 _
      have HZT : Hid (Lst z w0.heap.size 89 1 (.slice At k capt) k lT) := by rw [hz]; exact HT7.out.far hne3 _
      have HZF : Hid (Fr (d :: (Value.slice Av k capv).ownBlock.toList) w2 z) := by rw [hz]; exact (HF7.out.mono (fun x hx => .inl (List.mem_cons_of_mem _ hx))).setCell (.inl (by simp)) _
      have d3 : z.cell? ⟨d, 3, none⟩ = some (.slice At k capt) := HZB.out.cell 3
      have hszz := HZF.out.size
      change Code.wp _ _ _ _ (w7.setCell ⟨d, 2, none⟩ (.slice A2 (k + 1) cap2))
      rw [← hz]
      clear hz hne2 hne3 cz fz HB7 HT7 HF7 HS7
      go_wp2_with (at_builtin; refine wpList_append_lst _ rfl (.tmp 85) (.tmp 87) _ rfl w0.heap.size 89 ri _ 1 8 Tryd.underlying79 hri hrz hrs hrb rfl _ k lT rfl (HZT.out.alloc _) ⟨z.heap.size, 0, none⟩ 1 1 [.pointer (some ⟨rs, 0, none⟩)] rfl rfl (World.news_of_block (heap_alloc_new _ _)) ?c2 ?c3 ?c4 ?c5 ?c6)
      case c2 => simp [Value.oneCell']
      case c3 => unfold maxLen; omega
      case c4 => omega
      case c5 => first | omega | (simp; omega)
      case c6 =>
        intro v3 w8 hown hgrow hat
        have hne : ∀ j, (Value.slice At k capt).ownBlock = some j → j ≠ d := HZT.out.ne_bk HZB.out (by decide)
        have hfr : Fr (Value.slice At k capt).ownBlock.toList z w8 := ((Fr.refl _ _).alloc _).grown hgrow (fun j hj => .inl (by simp [hj]))
        have HB8 := Lib.hid (HZB.out.fr hfr (fun hx => hne _ (by simpa using hx) rfl))
        have HS8 := Lib.hid (HZS.out.fr hfr (fun j hj hx => HZS.out.ne_lst HZT.out (by decide) j hj hx))
        have HF8 : Hid (Fr (d :: ((Value.slice Av k capv).ownBlock.toList ++ (Value.slice At k capt).ownBlock.toList)) w2 w8) := (HZF.out.mono (fun x hx => .inl (by simp only [List.mem_cons, List.mem_append] at hx ⊢; rcases hx with e | e; exact .inl e; exact .inr (.inl e)))).trans hfr (fun x hx => .inl (by simp only [List.mem_cons, List.mem_append]; exact .inr (.inr hx)))
        have HT8 : Hid (Lst w8 w0.heap.size 89 1 v3 (k + 1) (lT ++ [.pointer (some ⟨rs, 0, none⟩)])) := hown
        have HA8 : Hid (∀ x, v3.ownBlock = some x → (Value.slice At k capt).ownBlock = some x ∨ w2.heap.size ≤ x) := fun x hx => by
          rcases hat with e | e
          · exact .inl (e ▸ hx)
          · rw [e] at hx
            injection hx with hx
            refine .inr ?_
            rw [← hx]
            try simp
            omega
        have cz := HB8.out.cell 3
        have fz := HB8.out.free 3
        obtain ⟨A3, cap3, rfl, _, _⟩ := HT8.out.look
        clear hown hgrow hat hfr hne d3
        go_wp2_with fail
        go_ret
        have hne2 : ∀ j, (Value.slice A2 (k + 1) cap2).ownBlock = some j → j ≠ d := HS8.out.ne_bk HB8.out (by decide)
        have hne3 : ∀ j, (Value.slice A3 (k + 1) cap3).ownBlock = some j → j ≠ d := HT8.out.ne_bk HB8.out (by decide)
        refine ⟨rfl, rb, F, _, _, _, HD2.out.push _ HSL.out.1 HSL.out.2 (HF8.out.setCell (.inl (by simp)) _) (HB8.out.put 3 _) ?_ ?_ HA7.out HA8.out (by rw [HK.out]; exact h6)⟩
        · rw [HK.out, HLS.out.1]
          exact HS8.out.far hne2 _
        · rw [HK.out, HLS.out.2]
          exact HT8.out.far hne3 _
  · have h6' : decide ((k : Int) < 6) = false := decide_eq_false (by omega)
    go_wp2_with fail
    go_ret
    exact ⟨rfl, rb, _, _, _, K, HD2.out⟩
end Go.Proofs.YtheiacfdbhjbmaaDoor
