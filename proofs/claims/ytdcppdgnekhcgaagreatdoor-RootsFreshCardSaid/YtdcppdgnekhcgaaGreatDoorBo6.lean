/-
  The Book of middenkept: markInts.
-/
import Derived.Test.YtdcppdgnekhcgaaGreatDoorBo5
import Derived.Deep.CutRange
namespace Go.Proofs.YtdcppdgnekhcgaaGreatDoor
open Go.RowKit
set_option linter.unusedVariables false

theorem perm3 {α : Type} (A B C : List α) (x : α) : (A ++ B ++ x :: C).Perm ((A ++ [x]) ++ B ++ C) := by
  have h1 : (A ++ B ++ x :: C).Perm (x :: (A ++ B ++ C)) := List.perm_middle
  have h2 : ((A ++ [x]) ++ B ++ C).Perm (x :: (A ++ B ++ C)) := by
    rw [List.append_assoc, List.append_assoc, List.append_assoc]
    exact List.perm_middle
  exact h1.trans h2.symm
set_option maxRecDepth 100000 in
set_option maxHeartbeats 3200000 in
theorem markInts_any {w0 w : World} {Us : List (Th w0.heap.size)} {S : BS} {XW : List (Value × List Int)} {K L : Nat} (h : Sg w0 (bkT w0.heap.size S ++ Us) w) (hl : BLk S [] XW [] K L) (hK : K ≤ 2000000000000) (hL : L ≤ 4000000000000) :
    Calls Tryz.prog 101 #[.pointer (some ⟨S.g, 0, none⟩)] w fun e w' => e = .returned (.tuple #[]) ∧ ∃ S' XF' XW', S'.g = S.g ∧ S'.deep = S.deep ∧ BLk S' XF' XW' [] K L ∧ Sg w0 (bkT w0.heap.size S' ++ Us) w' := by
  obtain ⟨nW, hnW⟩ : ∃ nW, XW.length = nW := ⟨_, rfl⟩
  have lW : S.W.length = nW := by rw [hl.W, List.length_map, hnW]
  have lN : S.N.length = nW := by rw [hl.n, hnW]
  have lM : (bV S.M).length = nW := by rw [bV_len, hl.m, hnW]
  have lD : (bV S.D).length = nW := by rw [bV_len, hl.d, hnW]
  obtain ⟨AW, pW, evW, hhW⟩ := h.head (i := 3) (j := 15) (v := S.vW) (xs := S.W) rfl rfl lW rfl
  obtain ⟨AN, pN, evN, hhN⟩ := h.head (i := 4) (j := 16) (v := S.vN) (xs := S.N) rfl rfl lN rfl
  obtain ⟨AM, pM, evM, hhM⟩ := h.head (i := 6) (j := 18) (v := S.vM) (xs := bV S.M) rfl rfl lM rfl
  obtain ⟨AD, pD, evD, hhD⟩ := h.head (i := 7) (j := 19) (v := S.vD) (xs := bV S.D) rfl rfl lD rfl
  have c15 := (hhW w (Fr.refl _ _)).2.1
  have c16 := (hhN w (Fr.refl _ _)).2.1
  have c18 := (hhM w (Fr.refl _ _)).2.1
  have c19 := (hhD w (Fr.refl _ _)).2.1
  have f15 := h.book.free 15
  have f16 := h.book.free 16
  have f18 := h.book.free 18
  have f19 := h.book.free 19
  have hnK : nW ≤ 1000000000000 := by have := hl.k; simp at this; omega
  by_cases h0 : nW = 0
  · subst h0
    have e0 : ((((0 : Nat) : Int)) == 0) = true := rfl
    have H := Lib.hid h
    have HL := Lib.hid hl
    clear h hl hhW hhN hhM hhD evW evN evM evD
    go_enter Tryz.func101, Tryz.ntmps101
    go_wp2_with fail
    go_returns
    exact ⟨rfl, S, [], XW, rfl, rfl, HL.out, H.out⟩
  · have e0 : (((nW : Nat) : Int) == 0) = false := by simpa using (show ¬ ((nW : Nat) : Int) = 0 by omega)
    have s1 := h.out1 (S' := { S with vW := .slice none 0 0, W := [] }) (i := 3) (j := 15) rfl (by decide) rfl rfl
    have s2 := s1.out1 (S' := { S with vW := .slice none 0 0, W := [], vN := .slice none 0 0, N := [] }) (i := 4) (j := 16) (v := S.vN) (xs := S.N) rfl (by decide) rfl rfl
    have s3 := s2.out1 (S' := { S with vW := .slice none 0 0, W := [], vN := .slice none 0 0, N := [], vM := .slice none 0 0, M := [] }) (i := 6) (j := 18) (v := S.vM) (xs := bV S.M) rfl (by decide) rfl rfl
    have s4 := s3.out1 (S' := { S with vW := .slice none 0 0, W := [], vN := .slice none 0 0, N := [], vM := .slice none 0 0, M := [], vD := .slice none 0 0, D := [] }) (i := 7) (j := 19) (v := S.vD) (xs := bV S.D) rfl (by decide) rfl rfl
    obtain ⟨Vs, hVs⟩ : ∃ Vs, (((Us ++ [thLst w0.heap.size 29 S.vW S.W]) ++ [thLst w0.heap.size 29 S.vN S.N]) ++ [thLst w0.heap.size 3 S.vM (bV S.M)]) ++ [thLst w0.heap.size 3 S.vD (bV S.D)] = Vs := ⟨_, rfl⟩
    rw [hVs] at s4
    have HV : Hid (∀ (S1 : BS) (Z : World), Sg w0 (bkT w0.heap.size S1 ++ Vs) Z → Lst Z w0.heap.size 29 1 (.slice AW nW pW) nW S.W ∧ Lst Z w0.heap.size 29 1 (.slice AN nW pN) nW S.N ∧ Lst Z w0.heap.size 3 1 (.slice AM nW pM) nW (bV S.M) ∧ Lst Z w0.heap.size 3 1 (.slice AD nW pD) nW (bV S.D)) := fun S1 Z hs => by
      have k : ∀ i, (bkT w0.heap.size S1 ++ Vs)[11 + i]? = Vs[i]? := fun i => by rw [List.getElem?_append_right (by rw [bkT_len]; omega), bkT_len, Nat.add_sub_cancel_left]
      have v0 : Vs[Us.length]? = some (thLst w0.heap.size 29 S.vW S.W) := by rw [← hVs]; simp
      have v1 : Vs[Us.length + 1]? = some (thLst w0.heap.size 29 S.vN S.N) := by rw [← hVs]; simp
      have v2 : Vs[Us.length + 2]? = some (thLst w0.heap.size 3 S.vM (bV S.M)) := by rw [← hVs]; simp
      have v3 : Vs[Us.length + 3]? = some (thLst w0.heap.size 3 S.vD (bV S.D)) := by rw [← hVs]; simp
      have a0 := hs.lst ((k _).trans v0)
      have a1 := hs.lst ((k _).trans v1)
      have a2 := hs.lst ((k _).trans v2)
      have a3 := hs.lst ((k _).trans v3)
      rw [lW, evW] at a0
      rw [lN, evN] at a1
      rw [lM, evM] at a2
      rw [lD, evD] at a3
      exact ⟨a0, a1, a2, a3⟩
    have HLEFT : Hid (∀ (S1 : BS) (Z : World), Sg w0 (bkT w0.heap.size S1 ++ Vs) Z → Sg w0 (bkT w0.heap.size S1 ++ Us) Z) := fun S1 Z hs => by
      rw [← hVs, ← List.append_assoc, ← List.append_assoc, ← List.append_assoc, ← List.append_assoc] at hs
      exact hs.left.left.left.left
    obtain ⟨w5, hw5⟩ : ∃ w5, (((w.setCell ⟨S.g, 15, none⟩ (.slice none 0 0)).setCell ⟨S.g, 16, none⟩ (.slice none 0 0)).setCell ⟨S.g, 18, none⟩ (.slice none 0 0)).setCell ⟨S.g, 19, none⟩ (.slice none 0 0) = w5 := ⟨_, rfl⟩
    dsimp only at s4
    rw [hw5] at s4
    have HI : Hid (MkI Vs S XW K L 0 w5) := by
      refine ⟨{ S with vW := .slice none 0 0, W := [], vN := .slice none 0 0, N := [], vM := .slice none 0 0, M := [], vD := .slice none 0 0, D := [] }, [], [], rfl, rfl, fun p hp => hp, ⟨?_, rfl, hl.F, rfl, rfl, rfl, hl.r, hl.t, hl.o, fun i x q hx _ => by simp at hx, ?_, hl.l⟩, s4⟩
      · rw [List.drop_zero]
        have := hl.x
        simpa using this
      · have := hl.k
        rw [List.drop_zero]
        simp at this ⊢
        exact this
    have HL := Lib.hid hl
    have HNW := Lib.hid hnW
    have HXL : Hid (∀ (S1 : BS) (x : Value × List Int) {Z : World}, Sg w0 (bkT w0.heap.size S1 ++ Vs) Z → x ∈ S1.X → Lst Z w0.heap.size 3 1 x.1 x.2.length (bV x.2)) := fun S1 x {Z} hs hx => (hs.ok 10 (thWR w0.heap.size S1.X) rfl).1 x hx
    clear h hl hhW hhN hhM hhD evW evN evM evD s1 s2 s3 s4 hVs lW lN lM lD hnW
    go_enter Tryz.func101, Tryz.ntmps101
    go_upto_region 6 with fail
    try rw [hw5]
    clear hw5 c15 c16 c18 c19 f15 f16 f18 f19
    go_wp2_with fail
    go_loopw [6] (fun u wr => ∃ k : Nat, k ≤ nW ∧ u = .int .i64 k ∧ Hid (MkI Vs S XW K L k wr)) (fun u _ => nW - (intOf u).toNat)
    case atStart => exact ⟨0, by omega, rfl, HI.out⟩
    case round =>
      obtain ⟨k, hk, rfl, hx⟩ := hrel
      obtain ⟨S1, XF, XV, g1, g2, g3, hb, hs⟩ := hx.out
      have H1 := Lib.hid hs
      have HB := Lib.hid hb
      have HQ := Lib.hid g3
      have HG2 := Lib.hid g2
      clear hx hs hb g3 g2
      by_cases hlt : k < nW
      · obtain ⟨⟨xv, xl⟩, hxk⟩ : ∃ x, XW[k]? = some x := ⟨_, List.getElem?_eq_getElem (by have := HNW.out; omega)⟩
        have HDR := Lib.hid (drop_cons' hxk)
        obtain ⟨q, hq⟩ : ∃ q, S.N[k]? = some q := ⟨_, List.getElem?_eq_getElem (by have := HL.out.n; have := HNW.out; omega)⟩
        obtain ⟨m, hm⟩ : ∃ m, S.M[k]? = some m := ⟨_, List.getElem?_eq_getElem (by have := HL.out.m; have := HNW.out; omega)⟩
        obtain ⟨d, hd⟩ : ∃ d, S.D[k]? = some d := ⟨_, List.getElem?_eq_getElem (by have := HL.out.d; have := HNW.out; omega)⟩
        have HQQ : Hid ((q, xl) ∈ S1.Q) := HQ.out _ (HL.out.w k _ q hxk hq)
        have hxm : (xv, xl) ∈ S1.X := by rw [HB.out.x, HDR.out]; simp
        have hxl := HXL.out _ _ H1.out hxm
        obtain ⟨A, c, hxv0, _, _⟩ := hxl.look
        have hxv : xv = .slice A xl.length c := hxv0
        clear hxv0
        obtain ⟨n, hn⟩ : ∃ n, xl.length = n := ⟨_, rfl⟩
        rw [hn] at hxv
        subst hxv
        have hnL : n ≤ 4000000000000 := by have := HB.out.l _ hxm; have h2 : xl.length ≤ L := this; omega
        have HNX : Hid (xl.length = n ∧ True) := ⟨hn, trivial⟩
        have HXM := Lib.hid hxm
        obtain ⟨Aq, cq, hqv, _⟩ := ((H1.out.ok 9 (thRO w0.heap.size S1.Q S1.FQ) rfl).1 _ HQQ.out).1
        have hqv2 : q = .slice Aq n cq := by rw [← hn]; exact hqv
        clear hqv
        subst hqv2
        have hwk : S.W[k]? = some (.slice A n c) := by rw [HL.out.W, List.getElem?_map, hxk]; rfl
        obtain ⟨l1, l2, l3, l4⟩ := HV.out S1 wr H1.out
        obtain ⟨b1, o1, z1, e1, _, _, _, _, _, _, q1⟩ := l1.form (by omega)
        injection e1 with e1 _ e1'
        subst e1 e1'
        obtain ⟨b2, o2, z2, e2, _, _, _, _, _, _, q2⟩ := l2.form (by omega)
        injection e2 with e2 _ e2'
        subst e2 e2'
        obtain ⟨b3, o3, z3, e3, _, _, _, _, _, _, q3⟩ := l3.form (by omega)
        injection e3 with e3 _ e3'
        subst e3 e3'
        obtain ⟨b4, o4, z4, e4, _, _, _, _, _, _, q4⟩ := l4.form (by omega)
        injection e4 with e4 _ e4'
        subst e4 e4'
        have x1 := q1 k _ hwk
        have x3 := q3 k _ (bV_at hm)
        have x4 := q4 k _ (bV_at hd)
        have c2 : wr.cell? ⟨S.g, 2, none⟩ = some (.int .i64 S1.turn) := by have := H1.out.book.cell 2; rw [g1] at this; exact this
        have HCN : Hid (∀ (S2 : BS) (Z : World), Sg w0 (bkT w0.heap.size S2 ++ Vs) Z → Z.cell? ⟨b2, o2 + k, none⟩ = some (.slice Aq n cq) ∧ b2 < Z.heap.size) := fun S2 Z hs => by
          obtain ⟨_, l2, _, _⟩ := HV.out S2 Z hs
          obtain ⟨b, o, z, e, _, hlt, _, _, _, _, qq⟩ := l2.form (by omega)
          injection e with e _ _
          injection e with e
          injection e with e1 e2
          subst e1 e2
          exact ⟨qq k _ hq, hlt⟩
        have HCD : Hid (∀ (S2 : BS) (Z : World), Sg w0 (bkT w0.heap.size S2 ++ Vs) Z → Z.cell? ⟨b4, o4 + k, none⟩ = some (.int .i64 d) ∧ b4 < Z.heap.size) := fun S2 Z hs => by
          obtain ⟨_, _, _, l4⟩ := HV.out S2 Z hs
          obtain ⟨b, o, z, e, _, hlt, _, _, _, _, qq⟩ := l4.form (by omega)
          injection e with e _ _
          injection e with e
          injection e with e1 e2
          subst e1 e2
          exact ⟨qq k _ (bV_at hd), hlt⟩
        have i0 : (0 : Int) ≤ (k : Int) := by omega
        have i1 : (k : Int) < (nW : Int) := by omega
        have j2 : decide ((k : Int) < (nW : Int)) = true := decide_eq_true i1
        obtain ⟨i3, hi3, hz3, hs3, hb3⟩ := binfo bints_info
        obtain ⟨i2, hi2, hz2, hs2, hb2⟩ := binfo bint_info
        clear l1 l2 l3 l4 q1 q2 q3 q4 hxl hxm hxk hq hm hd hwk hn
        go_upto_region 11 with fail
        obtain ⟨tt, htt⟩ : ∃ tt, decide (S1.turn < d) = tt := ⟨_, rfl⟩
        go_cut [63] from 41 to 187 (fun v wx => v = .bool tt ∧ Hid (Sg w0 (bkT w0.heap.size S1 ++ Vs) wx))
        case first =>
          go_quiet (fail)
          try go_wp2_with fail
          go_meet
          case rel => exact ⟨by first | rfl | (rw [← htt]), H1.out.nil ((Fr.refl _ _).drewN _)⟩
        obtain ⟨hu, H2⟩ := hcut
        subst hu
        obtain ⟨w1, hwc⟩ : ∃ x, x = wc := ⟨_, rfl⟩
        subst hwc
        clear htt x1 x3 x4 c2
        cases tt with
        | true =>
          go_upto_region 12 with fail
          obtain ⟨nna, hna⟩ : ∃ n, (S1.W).length = n := ⟨_, rfl⟩
          have bda : nna ≤ 2000000000000 := by rw [HB.out.W, List.length_map] at hna; have := HB.out.k; rw [HDR.out] at this; simp at this; omega
          obtain ⟨Aa, pa, eva, hha⟩ := H2.out.head (i := 3) (j := 15) (v := S1.vW) (xs := S1.W) g1 rfl hna rfl
          have EVa := Lib.hid eva
          have HNa := Lib.hid hna
          have HHa := Lib.hid hha
          obtain ⟨_, ca, lga⟩ := hha w1 (Fr.refl _ _)
          have fra : w1.frozen? ⟨S.g, 15, none⟩ = false := by have := H2.out.book.free 15; rw [show _ = S.g from g1] at this; exact this
          have wsa := H2.out.fr.size
          clear hha eva hna
          go_wp2_with (at_builtin; refine wpList_append_lst _ rfl (.tmp 68) (.tmp 70) _ rfl w0.heap.size 29 i3 _ 1 24 Tryz.underlying30 hi3 hz3 hs3 hb3 rfl _ nna (S1.W) rfl ((HHa.out _ (Fr.refl _ _)).1.alloc _) ⟨w1.heap.size, 0, none⟩ 1 1 [.slice A n c] rfl rfl (World.news_of_block (heap_alloc_new _ _)) ?cAa ?cBa ?cCa ?cDa ?cEa)
          case cAa => simp [Value.oneCell']
          case cBa => unfold maxLen; omega
          case cCa => omega
          case cDa => first | omega | (simp; omega)
          intro va ya hown hgrow hat
          obtain ⟨hBa, hSa⟩ := H2.out.hdr (i := 3) (j := 15) (v := S1.vW) (xs := S1.W) (ys := [.slice A n c]) (n := nna + 1) (S' := { S1 with vW := va, W := S1.W ++ [.slice A n c] }) g1 rfl (by decide) (by rw [List.length_append, HNa.out]; rfl) hown (by rw [EVa.out]; exact ((Fr.refl _ _).alloc _).grown hgrow (fun k hk => .inl (by simp [hk]))) (by rw [EVa.out]; exact bown (by simp) hat) rfl rfl
          have da := hBa.cell 15
          have ga := hBa.free 15
          obtain ⟨Ba, ra, rfl, _, _⟩ := hown.look
          obtain ⟨wa, hwa⟩ : ∃ w', ya.setCell ⟨S.g, 15, none⟩ (.slice Ba (nna + 1) ra) = w' := ⟨_, rfl⟩
          rw [hwa] at hSa
          have HSa := Lib.hid hSa
          clear hown hgrow hat hBa hSa ca fra
          go_upto_region 13 with fail
          try rw [hwa]
          clear hwa da ga 
          obtain ⟨c7, lb7⟩ := HCN.out _ wa HSa.out
          obtain ⟨nnb, hnb⟩ : ∃ n, (S1.N).length = n := ⟨_, rfl⟩
          have bdb : nnb ≤ 2000000000000 := by have := HB.out.k; have h1 := HB.out.n; rw [HDR.out] at this; simp at this; omega
          obtain ⟨Ab, pb, evb, hhb⟩ := HSa.out.head (i := 4) (j := 16) (v := S1.vN) (xs := S1.N) g1 rfl hnb rfl
          have EVb := Lib.hid evb
          have HNb := Lib.hid hnb
          have HHb := Lib.hid hhb
          obtain ⟨_, cb, lgb⟩ := hhb wa (Fr.refl _ _)
          have frb : wa.frozen? ⟨S.g, 16, none⟩ = false := by have := HSa.out.book.free 16; rw [show _ = S.g from g1] at this; exact this
          have wsb := HSa.out.fr.size
          clear hhb evb hnb
          go_cut [] from 41 to 187 (fun wx => Hid (∃ vb, Sg w0 (bkT w0.heap.size { S1 with vW := (.slice Ba (nna + 1) ra), W := S1.W ++ [.slice A n c], vN := vb, N := S1.N ++ [.slice Aq n cq] } ++ Vs) wx))
          case first =>
            have HPX : Hid (∀ (vb : Value) (y : World), Lst y w0.heap.size 29 1 vb (nnb + 1) (S1.N ++ [.slice Aq n cq]) → Fr ((Value.slice Ab nnb pb).ownBlock.toList) wa y → (∀ k, vb.ownBlock = some k → (Value.slice Ab nnb pb).ownBlock = some k ∨ wa.heap.size ≤ k) → y.cell? ⟨S.g, 16, none⟩ = some (.slice Ab nnb pb) ∧ y.frozen? ⟨S.g, 16, none⟩ = false ∧ Sg w0 (bkT w0.heap.size { S1 with vW := (.slice Ba (nna + 1) ra), W := S1.W ++ [.slice A n c], vN := vb, N := S1.N ++ [.slice Aq n cq] } ++ Vs) (y.setCell ⟨S.g, 16, none⟩ vb)) := fun vb y hown hfy hat => by
              obtain ⟨b1, b2⟩ := HSa.out.hdr (i := 4) (j := 16) (v := S1.vN) (xs := S1.N) (ys := [.slice Aq n cq]) (n := nnb + 1) (S' := { S1 with vW := (.slice Ba (nna + 1) ra), W := S1.W ++ [.slice A n c], vN := vb, N := S1.N ++ [.slice Aq n cq] }) g1 rfl (by decide) (by rw [List.length_append, HNb.out]; rfl) hown (by rw [EVb.out]; exact hfy) (by rw [EVb.out]; exact hat) rfl rfl
              have b3 := b1.cell 16
              have b4 := b1.free 16
              rw [← EVb.out]
              exact ⟨b3, b4, b2⟩
            go_region_law
              (first
                | (refine step_append_lst _ (by rfl) _ _ _ (by rfl) w0.heap.size 29 i3 _ 1 24 Tryz.underlying30 hi3 hz3 hs3 hb3 rfl (.slice Ab nnb pb) nnb (S1.N) (by rfl) ((HHb.out _ (by repeat (first | exact Fr.refl _ _ | refine Fr.drew ?_ | refine Fr.alloc ?_ _))).1) ⟨wa.heap.size, 0, none⟩ 1 1 [.slice Aq n cq] (by rfl) (by rfl) (World.news_of_block (cs := #[.slice Aq n cq]) (t := 29) (fr := (0, 0)) (Bk.new_at _ _ _ _ (by simp))) (by simp [Value.oneCell']) (by unfold maxLen; omega) (by omega) (by first | omega | (simp; omega)) ?_; intro vb yb hown hgrow hat; have hq := HPX.out vb yb hown (by refine Fr.grown ?_ hgrow (fun k hk => .inl (by simp [hk])); repeat (first | exact Fr.refl _ _ | refine Fr.drew ?_ | refine Fr.alloc ?_ _)) (bown (by simp) hat); obtain ⟨hc4, hf4, hend⟩ := hq; have HEND := Lib.hid hend; clear hend; obtain ⟨_, _, rfl, _, _⟩ := hown.look))
            all_goals
              try go_wp2_with fail
              go_meet
              case rel => first | exact Lib.hid ⟨_, HEND.out⟩ | exact Lib.hid ⟨_, HEND.out.nil ((Fr.refl _ _).drew)⟩
          obtain ⟨vb, hSb⟩ := hcut.out
          obtain ⟨wb, hwcb⟩ : ∃ x, x = wc := ⟨_, rfl⟩
          subst hwcb
          have HSb := Lib.hid hSb
          clear hcut hSb cb frb
          clear c7 lb7
          obtain ⟨nnc, hnc⟩ : ∃ n, (bV (S1.M)).length = n := ⟨_, rfl⟩
          have bdc : nnc ≤ 2000000000000 := by rw [bV_len] at hnc; have := HB.out.k; have h1 := HB.out.m; rw [HDR.out] at this; simp at this; omega
          obtain ⟨Ac, pc, evc, hhc⟩ := HSb.out.head (i := 6) (j := 18) (v := S1.vM) (xs := bV (S1.M)) g1 rfl hnc rfl
          have EVc := Lib.hid evc
          have HNc := Lib.hid hnc
          have HHc := Lib.hid hhc
          obtain ⟨_, cc, lgc⟩ := hhc wb (Fr.refl _ _)
          have frc : wb.frozen? ⟨S.g, 18, none⟩ = false := by have := HSb.out.book.free 18; rw [show _ = S.g from g1] at this; exact this
          have wsc := HSb.out.fr.size
          clear hhc evc hnc
          go_wp2_with (at_builtin; refine wpList_append_lst _ rfl (.tmp 91) (.tmp 93) _ rfl w0.heap.size 3 i2 _ 1 8 Tryz.underlying29 hi2 hz2 hs2 hb2 rfl _ nnc (bV (S1.M)) rfl ((HHc.out _ (Fr.refl _ _)).1.alloc _) ⟨wb.heap.size, 0, none⟩ 1 1 [.int .i64 m] rfl rfl (World.news_of_block (heap_alloc_new _ _)) ?cAc ?cBc ?cCc ?cDc ?cEc)
          case cAc => simp [Value.oneCell']
          case cBc => unfold maxLen; omega
          case cCc => omega
          case cDc => first | omega | (simp; omega)
          intro vc yc hown hgrow hat
          obtain ⟨hBc, hSc⟩ := HSb.out.hdr (i := 6) (j := 18) (v := S1.vM) (xs := bV (S1.M)) (ys := [.int .i64 m]) (n := nnc + 1) (S' := { S1 with vW := (.slice Ba (nna + 1) ra), W := S1.W ++ [.slice A n c], vN := vb, N := S1.N ++ [.slice Aq n cq], vM := vc, M := S1.M ++ [m] }) g1 rfl (by decide) (by rw [List.length_append, HNc.out]; rfl) hown (by rw [EVc.out]; exact ((Fr.refl _ _).alloc _).grown hgrow (fun k hk => .inl (by simp [hk]))) (by rw [EVc.out]; exact bown (by simp) hat) rfl (by rw [bV_snoc]; rfl)
          have dc := hBc.cell 18
          have gc := hBc.free 18
          obtain ⟨Bc, rc, rfl, _, _⟩ := hown.look
          obtain ⟨wc, hwc⟩ : ∃ w', yc.setCell ⟨S.g, 18, none⟩ (.slice Bc (nnc + 1) rc) = w' := ⟨_, rfl⟩
          rw [hwc] at hSc
          have HSc := Lib.hid hSc
          clear hown hgrow hat hBc hSc cc frc
          go_upto_region 15 with fail
          try rw [hwc]
          clear hwc dc gc 
          obtain ⟨c7, lb7⟩ := HCD.out _ wc HSc.out
          obtain ⟨nne, hne⟩ : ∃ n, (bV (S1.D)).length = n := ⟨_, rfl⟩
          have bde : nne ≤ 2000000000000 := by rw [bV_len] at hne; have := HB.out.k; have h1 := HB.out.d; rw [HDR.out] at this; simp at this; omega
          obtain ⟨Ae, pe, eve, hhe⟩ := HSc.out.head (i := 7) (j := 19) (v := S1.vD) (xs := bV (S1.D)) g1 rfl hne rfl
          have EVe := Lib.hid eve
          have HNe := Lib.hid hne
          have HHe := Lib.hid hhe
          obtain ⟨_, ce, lge⟩ := hhe wc (Fr.refl _ _)
          have fre : wc.frozen? ⟨S.g, 19, none⟩ = false := by have := HSc.out.book.free 19; rw [show _ = S.g from g1] at this; exact this
          have wse := HSc.out.fr.size
          clear hhe eve hne
          go_cut [] from 41 to 187 (fun wx => Hid (∃ ve, Sg w0 (bkT w0.heap.size { S1 with vW := (.slice Ba (nna + 1) ra), W := S1.W ++ [.slice A n c], vN := vb, N := S1.N ++ [.slice Aq n cq], vM := (.slice Bc (nnc + 1) rc), M := S1.M ++ [m], vD := ve, D := S1.D ++ [d] } ++ Vs) wx))
          case first =>
            have HPX : Hid (∀ (ve : Value) (y : World), Lst y w0.heap.size 3 1 ve (nne + 1) (bV (S1.D) ++ [.int .i64 d]) → Fr ((Value.slice Ae nne pe).ownBlock.toList) wc y → (∀ k, ve.ownBlock = some k → (Value.slice Ae nne pe).ownBlock = some k ∨ wc.heap.size ≤ k) → y.cell? ⟨S.g, 19, none⟩ = some (.slice Ae nne pe) ∧ y.frozen? ⟨S.g, 19, none⟩ = false ∧ Sg w0 (bkT w0.heap.size { S1 with vW := (.slice Ba (nna + 1) ra), W := S1.W ++ [.slice A n c], vN := vb, N := S1.N ++ [.slice Aq n cq], vM := (.slice Bc (nnc + 1) rc), M := S1.M ++ [m], vD := ve, D := S1.D ++ [d] } ++ Vs) (y.setCell ⟨S.g, 19, none⟩ ve)) := fun ve y hown hfy hat => by
              obtain ⟨b1, b2⟩ := HSc.out.hdr (i := 7) (j := 19) (v := S1.vD) (xs := bV (S1.D)) (ys := [.int .i64 d]) (n := nne + 1) (S' := { S1 with vW := (.slice Ba (nna + 1) ra), W := S1.W ++ [.slice A n c], vN := vb, N := S1.N ++ [.slice Aq n cq], vM := (.slice Bc (nnc + 1) rc), M := S1.M ++ [m], vD := ve, D := S1.D ++ [d] }) g1 rfl (by decide) (by rw [List.length_append, HNe.out]; rfl) hown (by rw [EVe.out]; exact hfy) (by rw [EVe.out]; exact hat) rfl (by rw [bV_snoc]; rfl)
              have b3 := b1.cell 19
              have b4 := b1.free 19
              rw [← EVe.out]
              exact ⟨b3, b4, b2⟩
            go_region_law
              (first
                | (refine step_append_lst _ (by rfl) _ _ _ (by rfl) w0.heap.size 3 i2 _ 1 8 Tryz.underlying29 hi2 hz2 hs2 hb2 rfl (.slice Ae nne pe) nne (bV (S1.D)) (by rfl) ((HHe.out _ (by repeat (first | exact Fr.refl _ _ | refine Fr.drew ?_ | refine Fr.alloc ?_ _))).1) ⟨wc.heap.size, 0, none⟩ 1 1 [.int .i64 d] (by rfl) (by rfl) (World.news_of_block (cs := #[.int .i64 d]) (t := 3) (fr := (0, 0)) (Bk.new_at _ _ _ _ (by simp))) (by simp [Value.oneCell']) (by unfold maxLen; omega) (by omega) (by first | omega | (simp; omega)) ?_; intro ve ye hown hgrow hat; have hq := HPX.out ve ye hown (by refine Fr.grown ?_ hgrow (fun k hk => .inl (by simp [hk])); repeat (first | exact Fr.refl _ _ | refine Fr.drew ?_ | refine Fr.alloc ?_ _)) (bown (by simp) hat); obtain ⟨hc4, hf4, hend⟩ := hq; have HEND := Lib.hid hend; clear hend; obtain ⟨_, _, rfl, _, _⟩ := hown.look))
            all_goals
              try go_wp2_with fail
              go_meet
              case rel => first | exact Lib.hid ⟨_, HEND.out⟩ | exact Lib.hid ⟨_, HEND.out.nil ((Fr.refl _ _).drew)⟩
          obtain ⟨ve, hSe⟩ := hcut.out
          obtain ⟨we, hwce⟩ : ∃ x, x = wc := ⟨_, rfl⟩
          subst hwce
          have HSe := Lib.hid hSe
          clear hcut hSe ce fre
          clear c7 lb7
          have HK : Hid (MkI Vs S XW K L (k + 1) we) := ⟨{ S1 with vW := (.slice Ba (nna + 1) ra), W := S1.W ++ [.slice A n c], vN := vb, N := S1.N ++ [.slice Aq n cq], vM := (.slice Bc (nnc + 1) rc), M := S1.M ++ [m], vD := ve, D := S1.D ++ [d] }, XF, XV ++ [(.slice A n c, xl)], g1, HG2.out, HQ.out, by have := HB.out; rw [HDR.out] at this; exact this.keep HQQ.out, HSe.out⟩
          go_wp2_with fail
          go_roundw
          case rel => exact ⟨k + 1, by omega, by go_num, HK.out⟩
          case measure => simp [intOf]; omega
        | false =>
          have cb1 : w1.cell? ⟨S.g, 1, none⟩ = some (.bool false) := by have := H2.out.book.cell 1; rw [g1] at this; exact this
          have cb0 : w1.cell? ⟨S.g, 0, none⟩ = some (.bool false) := by have := H2.out.book.cell 0; rw [g1] at this; exact this
          have fb1 : w1.frozen? ⟨S.g, 1, none⟩ = false := by have := H2.out.book.free 1; rw [g1] at this; exact this
          obtain ⟨c7, lb7⟩ := HCN.out _ w1 H2.out
          have HSAME := Lib.hid (keptSame_any (.slice A n c) (.slice Aq n cq) xl w1 (HXL.out _ _ H2.out HXM.out).rdv ((H2.out.ok 9 (thRO w0.heap.size S1.Q S1.FQ) rfl).1 _ HQQ.out).1)
          go_upto_region 16 with fail
          go_wp2_with fail
          refine (Calls.mono HSAME.out ?_)
          rintro e z ⟨rfl, rfl⟩
          have hs2 := H2.out.cel (S' := S1) (j := 1) (u := .bool false) rfl rfl
          rw [g1] at hs2
          obtain ⟨w2, hw2⟩ : ∃ w2, w1.setCell ⟨S.g, 1, none⟩ (.bool false) = w2 := ⟨_, rfl⟩
          rw [hw2] at hs2
          have H3 : Hid (Sg w0 (bkT w0.heap.size { S1 with X := XF ++ XV ++ (.slice A n c, xl) :: XW.drop (k + 1) } ++ Vs) w2) := hs2.perm (by rw [HB.out.x, HDR.out])
          clear hs2 HSAME
          go_upto_region 17 with fail
          try rw [hw2]
          clear hw2 cb1 cb0 fb1 c7 lb7
          go_wp2_with fail
          go_loopw [9] (fun u wr => ∃ i : Nat, i ≤ n ∧ u = .int .i64 i ∧ Hid (∃ c1 : List Int, c1.length = n ∧ Sg w0 (bkT w0.heap.size { S1 with X := XF ++ XV ++ (.slice A n c, c1) :: XW.drop (k + 1) } ++ Vs) wr)) (fun u _ => n - (intOf u).toNat)
          case atStart => exact ⟨0, by omega, rfl, xl, HNX.out.1, H3.out⟩
          case round =>
            obtain ⟨i, hi, rfl, hx⟩ := hrel
            obtain ⟨c1, hc1, hs⟩ := hx.out
            have HS := Lib.hid hs
            have HC1 := Lib.hid hc1
            clear hx hs
            obtain ⟨w3, hw3⟩ : ∃ x, x = wr := ⟨_, rfl⟩
            subst hw3
            have hxl := HXL.out _ (.slice A n c, c1) HS.out (by show _ ∈ XF ++ XV ++ (Value.slice A n c, c1) :: XW.drop (k + 1); simp)
            have hxl : Lst w3 w0.heap.size 3 1 (.slice A n c) n (bV c1) := by have := hxl; simp only [hc1] at this; exact this
            by_cases hlt2 : i < n
            · obtain ⟨b, o, cp, hv, _, hbl, _, _, _, hfz, hcl⟩ := hxl.form (by omega)
              injection hv with e1 _ e3
              subst e1 e3
              obtain ⟨z, hz⟩ : ∃ z, c1[i]? = some z := ⟨_, List.getElem?_eq_getElem (by omega)⟩
              have ci := hcl i _ (bV_at hz)
              have fi := hfz (o + i)
              have i0 : (0 : Int) ≤ (i : Int) := by omega
              have i1 : (i : Int) < (n : Int) := by omega
              have k2 : decide ((i : Int) < (n : Int)) = true := decide_eq_true i1
              have HW : Hid (∀ z : Int, ∃ c2 : List Int, c2.length = n ∧ Sg w0 (bkT w0.heap.size { S1 with X := XF ++ XV ++ (.slice (some ⟨b, o, none⟩) n c, c2) :: XW.drop (k + 1) } ++ Vs) (w3.setCell ⟨b, o + i, none⟩ (.int .i64 z))) := fun z => ⟨c1.set i z, by rw [List.length_set]; exact HC1.out, HS.out.wput HC1.out.symm rfl⟩
              clear hxl hcl hfz hz hc1
              go_wp2_with fail
              go_roundw
              case rel => exact ⟨i + 1, by omega, by go_num, HW.out _⟩
              case measure => simp [intOf]; omega
            · have k2 : decide ((i : Int) < (n : Int)) = false := decide_eq_false (by omega)
              have HRV : Hid (∀ {Z : World}, Fr [] w3 Z → RdV Z (.slice A n c) c1) := fun {Z} hf => by
                have : Lst w3 w0.heap.size 3 1 (.slice A n c) c1.length (bV c1) := by rw [hc1]; exact hxl
                exact this.rdv.fr hf (by simp)
              clear hxl hc1
              go_upto_region 21 with fail
              obtain ⟨nnf, hnf⟩ : ∃ n, (S1.O).length = n := ⟨_, rfl⟩
              have bdf : nnf ≤ 2000000000000 := by have := HB.out.k; rw [HDR.out] at this; simp at this; omega
              obtain ⟨Af, pf, evf, hhf⟩ := HS.out.head (i := 1) (j := 13) (v := S1.vO) (xs := S1.O) g1 rfl hnf rfl
              have EVf := Lib.hid evf
              have HNf := Lib.hid hnf
              have HHf := Lib.hid hhf
              obtain ⟨_, cf, lgf⟩ := hhf w3 (Fr.refl _ _)
              have frf : w3.frozen? ⟨S.g, 13, none⟩ = false := by have := HS.out.book.free 13; rw [show _ = S.g from g1] at this; exact this
              have wsf := HS.out.fr.size
              clear hhf evf hnf
              go_wp2_with (at_builtin; refine wpList_append_lst _ rfl (.tmp 150) (.tmp 152) _ rfl w0.heap.size 29 i3 _ 1 24 Tryz.underlying30 hi3 hz3 hs3 hb3 rfl _ nnf (S1.O) rfl ((HHf.out _ (Fr.refl _ _)).1.alloc _) ⟨w3.heap.size, 0, none⟩ 1 1 [.slice A n c] rfl rfl (World.news_of_block (heap_alloc_new _ _)) ?cAf ?cBf ?cCf ?cDf ?cEf)
              case cAf => simp [Value.oneCell']
              case cBf => unfold maxLen; omega
              case cCf => omega
              case cDf => first | omega | (simp; omega)
              intro vf yf hown hgrow hat
              obtain ⟨hBf, hSf⟩ := HS.out.hdr (i := 1) (j := 13) (v := S1.vO) (xs := S1.O) (ys := [.slice A n c]) (n := nnf + 1) (S' := { S1 with X := XF ++ XV ++ (.slice A n c, c1) :: XW.drop (k + 1), vO := vf, O := S1.O ++ [.slice A n c] }) g1 rfl (by decide) (by rw [List.length_append, HNf.out]; rfl) hown (by rw [EVf.out]; exact ((Fr.refl _ _).alloc _).grown hgrow (fun k hk => .inl (by simp [hk]))) (by rw [EVf.out]; exact bown (by simp) hat) rfl rfl
              have df := hBf.cell 13
              have gf := hBf.free 13
              obtain ⟨Bf, rf, rfl, _, _⟩ := hown.look
              obtain ⟨wf, hwf⟩ : ∃ w', yf.setCell ⟨S.g, 13, none⟩ (.slice Bf (nnf + 1) rf) = w' := ⟨_, rfl⟩
              rw [hwf] at hSf
              have HSf := Lib.hid hSf
              clear hown hgrow hat hBf hSf cf frf
              go_upto_region 22 with fail
              try rw [hwf]
              clear hwf df gf 
              have HRW : Hid (∀ {Z : World}, Fr [] wf Z → RdV Z (.slice A n c) c1) := fun {Z} hf => ((HXL.out _ (.slice A n c, c1) HSf.out (by show _ ∈ XF ++ XV ++ (Value.slice A n c, c1) :: XW.drop (k + 1); simp)).rdv).fr hf (by simp)
              obtain ⟨nnh, hnh⟩ : ∃ n, (S1.T).length = n := ⟨_, rfl⟩
              have bdh : nnh ≤ 2000000000000 := by have h1 := HB.out.t; have := HB.out.k; rw [HDR.out] at this; simp at this; omega
              obtain ⟨Ah, ph, evh, hhh⟩ := HSf.out.head (i := 2) (j := 14) (v := S1.vT) (xs := S1.T) g1 rfl hnh rfl
              have EVh := Lib.hid evh
              have HNh := Lib.hid hnh
              have HHh := Lib.hid hhh
              obtain ⟨_, ch, lgh⟩ := hhh wf (Fr.refl _ _)
              have frh : wf.frozen? ⟨S.g, 14, none⟩ = false := by have := HSf.out.book.free 14; rw [show _ = S.g from g1] at this; exact this
              have wsh := HSf.out.fr.size
              clear hhh evh hnh
              go_cut [] from 41 to 187 (fun wx => Hid (∃ qh vh, Sg w0 (bkT w0.heap.size { S1 with X := XF ++ XV ++ (.slice A n c, c1) :: XW.drop (k + 1), vO := (.slice Bf (nnf + 1) rf), O := S1.O ++ [.slice A n c], vT := vh, T := S1.T ++ [qh] } ++ (Vs ++ [thLst w0.heap.size 3 qh (bV c1)])) wx))
              case first =>
                have HPX : Hid (∀ (q v : Value) (y z : World), Lst y w0.heap.size 3 1 q c1.length (bV c1) → Fr [] wf y → (∀ k, q.ownBlock = some k → wf.heap.size ≤ k) → Lst z w0.heap.size 29 1 v (nnh + 1) (S1.T ++ [q]) → Fr ((Value.slice Ah nnh ph).ownBlock.toList) y z → (∀ k, v.ownBlock = some k → (Value.slice Ah nnh ph).ownBlock = some k ∨ y.heap.size ≤ k) →
                    z.cell? ⟨S.g, 14, none⟩ = some (.slice Ah nnh ph) ∧ z.frozen? ⟨S.g, 14, none⟩ = false ∧ Sg w0 (bkT w0.heap.size { S1 with X := XF ++ XV ++ (.slice A n c, c1) :: XW.drop (k + 1), vO := (.slice Bf (nnf + 1) rf), O := S1.O ++ [.slice A n c], vT := v, T := S1.T ++ [q] } ++ (Vs ++ [thLst w0.heap.size 3 q (bV c1)])) (z.setCell ⟨S.g, 14, none⟩ v)) := fun q v y z a1 a2 a3 a4 a5 a6 => by
                  have p := HSf.out.push (t := thLst w0.heap.size 3 q (bV c1)) a2 (by show Lst _ _ _ 1 _ (bV c1).length _; rw [bV_len]; exact a1) (fun x hx => a3 x (by simpa [thLst] using hx))
                  rw [List.append_assoc] at p
                  obtain ⟨b1, b2⟩ := p.hdr (i := 2) (j := 14) (v := S1.vT) (xs := S1.T) (ys := [q]) (n := nnh + 1) (S' := { S1 with X := XF ++ XV ++ (.slice A n c, c1) :: XW.drop (k + 1), vO := (.slice Bf (nnf + 1) rf), O := S1.O ++ [.slice A n c], vT := v, T := S1.T ++ [q] }) g1 rfl (by decide) (by rw [List.length_append, HNh.out]; rfl) a4 (by rw [EVh.out]; exact a5) (by rw [EVh.out]; exact a6) rfl rfl
                  have b3 := b1.cell 14
                  have b4 := b1.free 14
                  rw [← EVh.out]
                  exact ⟨b3, b4, b2⟩
                go_region_law
                  (first
                    | (refine step_copyI (by rfl) _ _ (by rfl) w0.heap.size wf.heap.size (by rfl) (Bk.new_at _ _ _ _ (by simp)) (by omega) A n c c1 (by rfl) HC1.out.symm (HRW.out (by repeat (first | exact Fr.refl _ _ | refine Fr.drew ?_ | refine Fr.alloc ?_ _))) (by first | omega | (simp; omega)) (by first | omega | (simp; omega)) ?_; intro q3 y3 hL3 hg3 ho3; have hf3 : Fr [] wf y3 := (by refine Fr.grown ?_ hg3 (fun k hk => .inr (by injection hk with hk; omega)); repeat (first | exact Fr.refl _ _ | refine Fr.drew ?_ | refine Fr.alloc ?_ _)); obtain ⟨A3, c3, rfl, _, _⟩ := hL3.look; have hcl3 := (HHh.out y3 hf3).2; obtain ⟨cl3, lg3⟩ := hcl3)
                    | (refine step_append_lst _ (by rfl) _ _ _ (by rfl) w0.heap.size 29 i3 _ 1 24 Tryz.underlying30 hi3 hz3 hs3 hb3 rfl (.slice Ah nnh ph) nnh (S1.T) (by rfl) ((HHh.out _ (by repeat (first | exact Fr.refl _ _ | exact hf3 | refine Fr.drew ?_ | refine Fr.alloc ?_ _))).1) ⟨y3.heap.size, 0, none⟩ 1 1 [.slice A3 c1.length c3] (by rfl) (by rfl) (World.news_of_block (cs := #[.slice A3 c1.length c3]) (t := 29) (fr := (0, 0)) (Bk.new_at _ _ _ _ (by simp))) (by simp [Value.oneCell']) (by unfold maxLen; omega) (by omega) (by have := hf3.size; first | omega | (simp; omega)) ?_; intro v4 y4 hown hgrow hat; have hq := HPX.out _ v4 y3 y4 hL3 hf3 (fun k hk => by rcases ho3 with e | e <;> rw [e] at hk <;> injection hk with hk <;> (first | omega | (simp at hk; omega))) hown (by refine Fr.grown ?_ hgrow (fun k hk => .inl (by simp [hk])); repeat (first | exact Fr.refl _ _ | refine Fr.drew ?_ | refine Fr.alloc ?_ _)) (bown (by simp) hat); obtain ⟨hc4, hf4, hend⟩ := hq; have HEND := Lib.hid hend; clear hend; obtain ⟨_, _, rfl, _, _⟩ := hown.look))
                all_goals
                  try go_wp2_with fail
                  go_meet
                  case rel => first | exact Lib.hid ⟨_, _, HEND.out⟩ | exact Lib.hid ⟨_, _, HEND.out.nil ((Fr.refl _ _).drew)⟩
              obtain ⟨qh, vh, hSh⟩ := hcut.out
              have hSh := hSh.ro
              obtain ⟨wh, hwch⟩ : ∃ x, x = wc := ⟨_, rfl⟩
              subst hwch
              have HSh := Lib.hid hSh
              clear hcut hSh ch frh
              obtain ⟨nni, hni⟩ : ∃ n, (S1.F).length = n := ⟨_, rfl⟩
              have bdi : nni ≤ 2000000000000 := by rw [HB.out.F, List.length_map] at hni; have := HB.out.k; rw [HDR.out] at this; simp at this; omega
              obtain ⟨Ai, pi, evi, hhi⟩ := HSh.out.head (i := 5) (j := 17) (v := S1.vF) (xs := S1.F) g1 rfl hni rfl
              have EVi := Lib.hid evi
              have HNi := Lib.hid hni
              have HHi := Lib.hid hhi
              obtain ⟨_, ci, lgi⟩ := hhi wh (Fr.refl _ _)
              have fri : wh.frozen? ⟨S.g, 17, none⟩ = false := by have := HSh.out.book.free 17; rw [show _ = S.g from g1] at this; exact this
              have wsi := HSh.out.fr.size
              clear hhi evi hni
              go_wp2_with (at_builtin; refine wpList_append_lst _ rfl (.tmp 172) (.tmp 174) _ rfl w0.heap.size 29 i3 _ 1 24 Tryz.underlying30 hi3 hz3 hs3 hb3 rfl _ nni (S1.F) rfl ((HHi.out _ (Fr.refl _ _)).1.alloc _) ⟨wh.heap.size, 0, none⟩ 1 1 [.slice A n c] rfl rfl (World.news_of_block (heap_alloc_new _ _)) ?cAi ?cBi ?cCi ?cDi ?cEi)
              case cAi => simp [Value.oneCell']
              case cBi => unfold maxLen; omega
              case cCi => omega
              case cDi => first | omega | (simp; omega)
              intro vi yi hown hgrow hat
              obtain ⟨hBi, hSi⟩ := HSh.out.hdr (i := 5) (j := 17) (v := S1.vF) (xs := S1.F) (ys := [.slice A n c]) (n := nni + 1) (S' := { S1 with X := XF ++ XV ++ (.slice A n c, c1) :: XW.drop (k + 1), vO := (.slice Bf (nnf + 1) rf), O := S1.O ++ [.slice A n c], vT := vh, T := S1.T ++ [qh], Q := S1.Q ++ [(qh, c1)], FQ := S1.FQ ++ qh.ownBlock.toList, vF := vi, F := S1.F ++ [.slice A n c] }) g1 rfl (by decide) (by rw [List.length_append, HNi.out]; rfl) hown (by rw [EVi.out]; exact ((Fr.refl _ _).alloc _).grown hgrow (fun k hk => .inl (by simp [hk]))) (by rw [EVi.out]; exact bown (by simp) hat) rfl rfl
              have di := hBi.cell 17
              have gi := hBi.free 17
              obtain ⟨Bi, ri, rfl, _, _⟩ := hown.look
              obtain ⟨wi, hwi⟩ : ∃ w', yi.setCell ⟨S.g, 17, none⟩ (.slice Bi (nni + 1) ri) = w' := ⟨_, rfl⟩
              rw [hwi] at hSi
              have HSi := Lib.hid hSi
              clear hown hgrow hat hBi hSi ci fri
              go_upto_region 24 with fail
              try rw [hwi]
              clear hwi di gi 
              obtain ⟨nnj, hnj⟩ : ∃ n, (bV (S1.R)).length = n := ⟨_, rfl⟩
              have bdj : nnj ≤ 2000000000000 := by rw [bV_len] at hnj; have h1 := HB.out.r; have := HB.out.k; rw [HDR.out] at this; simp at this; omega
              obtain ⟨Aj, pj, evj, hhj⟩ := HSi.out.head (i := 8) (j := 20) (v := S1.vR) (xs := bV (S1.R)) g1 rfl hnj rfl
              have EVj := Lib.hid evj
              have HNj := Lib.hid hnj
              have HHj := Lib.hid hhj
              obtain ⟨_, cj, lgj⟩ := hhj wi (Fr.refl _ _)
              have frj : wi.frozen? ⟨S.g, 20, none⟩ = false := by have := HSi.out.book.free 20; rw [show _ = S.g from g1] at this; exact this
              have wsj := HSi.out.fr.size
              clear hhj evj hnj
              go_wp2_with (at_builtin; refine wpList_append_lst _ rfl (.tmp 182) (.tmp 184) _ rfl w0.heap.size 3 i2 _ 1 8 Tryz.underlying29 hi2 hz2 hs2 hb2 rfl _ nnj (bV (S1.R)) rfl ((HHj.out _ (Fr.refl _ _)).1.alloc _) ⟨wi.heap.size, 0, none⟩ 1 1 [.int .i64 m] rfl rfl (World.news_of_block (heap_alloc_new _ _)) ?cAj ?cBj ?cCj ?cDj ?cEj)
              case cAj => simp [Value.oneCell']
              case cBj => unfold maxLen; omega
              case cCj => omega
              case cDj => first | omega | (simp; omega)
              intro vj yj hown hgrow hat
              obtain ⟨hBj, hSj⟩ := HSi.out.hdr (i := 8) (j := 20) (v := S1.vR) (xs := bV (S1.R)) (ys := [.int .i64 m]) (n := nnj + 1) (S' := { S1 with X := XF ++ XV ++ (.slice A n c, c1) :: XW.drop (k + 1), vO := (.slice Bf (nnf + 1) rf), O := S1.O ++ [.slice A n c], vT := vh, T := S1.T ++ [qh], Q := S1.Q ++ [(qh, c1)], FQ := S1.FQ ++ qh.ownBlock.toList, vF := (.slice Bi (nni + 1) ri), F := S1.F ++ [.slice A n c], vR := vj, R := S1.R ++ [m] }) g1 rfl (by decide) (by rw [List.length_append, HNj.out]; rfl) hown (by rw [EVj.out]; exact ((Fr.refl _ _).alloc _).grown hgrow (fun k hk => .inl (by simp [hk]))) (by rw [EVj.out]; exact bown (by simp) hat) rfl (by rw [bV_snoc]; rfl)
              have dj := hBj.cell 20
              have gj := hBj.free 20
              obtain ⟨Bj, rj, rfl, _, _⟩ := hown.look
              obtain ⟨wj, hwj⟩ : ∃ w', yj.setCell ⟨S.g, 20, none⟩ (.slice Bj (nnj + 1) rj) = w' := ⟨_, rfl⟩
              rw [hwj] at hSj
              have HSj := Lib.hid hSj
              clear hown hgrow hat hBj hSj cj frj
              have HK : Hid (MkI Vs S XW K L (k + 1) wj) := by
                have hb := HB.out
                rw [HDR.out] at hb
                have hp := HSj.out.perm (X' := (XF ++ [(.slice A n c, c1)]) ++ XV ++ XW.drop (k + 1)) (perm3 _ _ _ _)
                exact ⟨{ S1 with X := (XF ++ [(.slice A n c, c1)]) ++ XV ++ XW.drop (k + 1), vO := (.slice Bf (nnf + 1) rf), O := S1.O ++ [.slice A n c], vT := vh, T := S1.T ++ [qh], Q := S1.Q ++ [(qh, c1)], FQ := S1.FQ ++ qh.ownBlock.toList, vF := (.slice Bi (nni + 1) ri), F := S1.F ++ [.slice A n c], vR := (.slice Bj (nnj + 1) rj), R := S1.R ++ [m] }, _, _, g1, HG2.out, fun p hp => List.mem_append_left _ (HQ.out p hp), hb.full (by rw [HC1.out]; exact HNX.out.1.symm), hp⟩
              go_wp2_with fail
              try rw [hwj]
              go_roundw
              case rel => exact ⟨k + 1, by omega, by go_num, HK.out⟩
              case measure => simp [intOf]; omega
      · obtain rfl : k = nW := by omega
        have j2 : decide ((k : Int) < (k : Int)) = false := decide_eq_false (by omega)
        have HE : Hid (∃ S' XF' XW', S'.g = S.g ∧ S'.deep = S.deep ∧ BLk S' XF' XW' [] K L ∧ Sg w0 (bkT w0.heap.size S' ++ Us) wr) := by
          have hb := HB.out
          rw [List.drop_eq_nil_of_le (by have := HNW.out; omega)] at hb
          exact ⟨S1, XF, XV, g1, HG2.out, hb, HLEFT.out _ _ H1.out⟩
        go_wp2_with fail
        go_returns
        exact ⟨rfl, HE.out⟩
end Go.Proofs.YtdcppdgnekhcgaaGreatDoor
