/-
  The Book of middenkept: growInts.
-/
import Derived.Test.YtdcppdgnekhcgaaGreatDoorBo7
import Derived.Deep.CutRange
namespace Go.Proofs.YtdcppdgnekhcgaaGreatDoor
open Go.RowKit
set_option linter.unusedVariables false

theorem Sg.out1g {w0 w : World} {Us : List (Th w0.heap.size)} {S S' : BS} {i j g : Nat} {e : TypeId} {v : Value} {xs : List Value} (h : Sg w0 (bkT w0.heap.size S ++ Us) w) (hg : S.g = g) (hi : (bkT w0.heap.size S ++ Us)[i]? = some (thLst w0.heap.size e v xs)) (hi0 : i ≠ 0) (hc : (bookA S).setIfInBounds j (.slice Option.none 0 0) = bookA S')
    (hT : (((bkT w0.heap.size S ++ Us).set i (thLst w0.heap.size e (.slice Option.none 0 0) [])) ++ [thLst w0.heap.size e v xs]).set 0 (thBox w0.heap.size S.g 43 (bookA S')) = bkT w0.heap.size S' ++ (Us ++ [thLst w0.heap.size e v xs])) :
    Sg w0 (bkT w0.heap.size S' ++ Us) (w.setCell ⟨g, j, Option.none⟩ (.slice Option.none 0 0)) := by
  subst hg
  have h1 := h.out1 hi hi0 hc hT
  rw [← List.append_assoc] at h1
  exact h1.left
/-- What growInts keeps. -/
def GrI {w0 : World} (Us : List (Th w0.heap.size)) (S : BS) (XF XW : List (Value × List Int)) (K L k : Nat) (wr : World) : Prop :=
  ∃ S1, S1.g = S.g ∧ S1.deep = S.deep ∧ S1.F = S.F ∧ S1.R = S.R ∧ BLk { S1 with F := (XF.drop k).map (·.1), R := S1.R.drop k } (XF.drop k) XW [] K L ∧ Sg w0 (bkT w0.heap.size S1 ++ Us) wr
theorem BLk.laid {S : BS} {XF XW : List (Value × List Int)} {x : Value × List Int} {R1 : List Int} {g q vO vT : Value} {gl : List Int} {FQ : List Nat} {k K L : Nat} (h : BLk { S with F := (x :: XF).map (·.1), R := R1.drop k } (x :: XF) XW [] K L) (hR : k < R1.length) :
    BLk { S with X := XF ++ XW, vO := vO, O := S.O ++ [g], vT := vT, T := S.T ++ [q], Q := S.Q ++ [(q, gl)] ++ [x, (g, gl)], FQ := FQ, F := XF.map (·.1), R := R1.drop (k + 1) } XF XW [] K L := by
  have hx : S.X = _ := h.x
  have hn : S.N.length = _ := h.n
  have ht : S.T.length = S.O.length := h.t
  refine ⟨by simp, h.W, rfl, h.n, h.m, h.d, ?_, ?_, fun i p r hp hr => ?_, fun i y p hy hp => List.mem_append_left _ (List.mem_append_left _ (h.w i y p hy hp)), ?_, fun y hy => ?_⟩
  · have hr : (R1.drop k).length = _ := h.r
    show (R1.drop (k + 1)).length = _
    rw [List.length_drop] at hr ⊢
    simp at hr
    omega
  · show (S.T ++ [q]).length = (S.O ++ [g]).length
    rw [List.length_append, List.length_append, ht]; rfl
  · have hp : (S.O ++ [g])[i]? = some p := hp
    have hr : (S.T ++ [q])[i]? = some r := hr
    by_cases e : i < S.O.length
    · rw [List.getElem?_append_left e] at hp
      rw [List.getElem?_append_left (by rw [ht]; exact e)] at hr
      obtain ⟨c', h1, h2⟩ := h.o i p r hp hr
      refine ⟨c', List.mem_append_left _ (List.mem_append_left _ h1), ?_⟩
      rcases h2 with h2 | h2
      · exact .inl (List.mem_append_left _ (List.mem_append_left _ h2))
      · rcases List.mem_cons.1 h2 with e2 | e2
        · left
          rw [e2]
          exact List.mem_append_right _ (by simp)
        · exact .inr e2
    · rw [List.getElem?_append_right (by omega)] at hp
      rw [List.getElem?_append_right (by rw [ht]; omega), ht] at hr
      by_cases e2 : i - S.O.length = 0
      · rw [e2] at hp hr
        have hp : g = p := by simpa using hp
        have hr : q = r := by simpa using hr
        rw [← hp, ← hr]
        exact ⟨gl, List.mem_append_left _ (by simp), .inl (List.mem_append_right _ (by simp))⟩
      · rw [List.getElem?_eq_none (by simp; omega)] at hp
        cases hp
  · have hk : S.O.length + _ + _ ≤ K := h.k
    simp only [List.length_cons] at hk
    show (S.O ++ [g]).length + _ + _ ≤ K
    rw [List.length_append, List.length_cons, List.length_nil]
    omega
  · have hy : y ∈ XF ++ XW := hy
    exact h.l y (by show y ∈ S.X; rw [hx]; rcases List.mem_append.1 hy with e | e; exact List.mem_append_left _ (List.mem_append_left _ (List.mem_cons_of_mem _ e)); exact List.mem_append_left _ (List.mem_append_right _ e))
set_option maxRecDepth 100000 in
set_option maxHeartbeats 3200000 in
theorem growInts_any {w0 w : World} {Us : List (Th w0.heap.size)} {S : BS} {XF XW : List (Value × List Int)} {K L : Nat} (h : Sg w0 (bkT w0.heap.size S ++ Us) w) (hl : BLk S XF XW [] K L) (hK : K ≤ 2000000000000) (hL : L ≤ 4000000000000) :
    Calls Tryz.prog 114 #[.pointer (some ⟨S.g, 0, none⟩)] w fun e w' => e = .returned (.tuple #[]) ∧ ∃ S', S'.g = S.g ∧ S'.deep = S.deep ∧ BLk S' [] XW [] K L ∧ Sg w0 (bkT w0.heap.size S' ++ Us) w' := by
  obtain ⟨nF, hnF⟩ : ∃ nF, XF.length = nF := ⟨_, rfl⟩
  have lF : S.F.length = nF := by rw [hl.F, List.length_map, hnF]
  have lR : S.R.length = nF := by rw [hl.r, hnF]
  have hFm := hl.F
  have HI : Hid (GrI Us S XF XW K L 0 w) := ⟨S, rfl, rfl, rfl, rfl, ⟨hl.x, hl.W, rfl, hl.n, hl.m, hl.d, hl.r, hl.t, hl.o, hl.w, hl.k, hl.l⟩, h⟩
  have HFF : Hid (S.F.length = nF ∧ S.R.length = nF ∧ XF.length = nF ∧ S.F = XF.map (·.1)) := ⟨lF, lR, hnF, hFm⟩
  have hnK : nF ≤ 2000000000000 := by have := hl.k; simp at this; omega
  clear h hl hnF lF lR hFm
  go_enter Tryz.func114, Tryz.ntmps114
  go_wp2_with fail
  go_loopw [2] (fun u wr => ∃ k : Nat, k ≤ nF ∧ u = .int .i64 k ∧ Hid (GrI Us S XF XW K L k wr)) (fun u _ => nF - (intOf u).toNat)
  case atStart => exact ⟨0, by omega, rfl, HI.out⟩
  case round =>
    obtain ⟨k, hk, rfl, hx⟩ := hrel
    obtain ⟨S1, g1, g2, g3, g4, hb, hs⟩ := hx.out
    have H1 := Lib.hid hs
    have HB := Lib.hid hb
    have HG2 := Lib.hid g2
    have HF1 : Hid (S1.F = S.F ∧ S1.R = S.R) := ⟨g3, g4⟩
    obtain ⟨AF, pF, evF, hhF⟩ := hs.head (n := nF) (i := 5) (j := 17) (v := S1.vF) (xs := S1.F) g1 rfl (by rw [g3]; exact HFF.out.1) rfl
    obtain ⟨AR, pR, evR, hhR⟩ := hs.head (n := nF) (i := 8) (j := 20) (v := S1.vR) (xs := bV S1.R) g1 rfl (by rw [bV_len]; rw [g4]; exact HFF.out.2.1) rfl
    obtain ⟨lF, c17, _⟩ := hhF wr (Fr.refl _ _)
    obtain ⟨lR, c20, _⟩ := hhR wr (Fr.refl _ _)
    by_cases hlt : k < nF
    · obtain ⟨⟨v, l⟩, hxk⟩ : ∃ x, XF[k]? = some x := ⟨_, List.getElem?_eq_getElem (by have := HFF.out.2.2.1; omega)⟩
      have HDR := Lib.hid (drop_cons' hxk)
      obtain ⟨m, hm⟩ : ∃ m, S1.R[k]? = some m := ⟨_, List.getElem?_eq_getElem (by have := HFF.out.2.1; rw [← g4] at this; omega)⟩
      have HR1 : Hid (k < S1.R.length) := (List.getElem?_eq_some_iff.1 hm).1
      have hX : S1.X = (v, l) :: (XF.drop (k + 1) ++ XW) := by have := HB.out.x; rw [HDR.out] at this; simpa using this
      have hxl := (hs.ok 10 (thWR w0.heap.size S1.X) rfl).1 (v, l) (by rw [hX]; simp)
      obtain ⟨A, c, hv0, _, _⟩ := hxl.look
      have hv : v = .slice A l.length c := hv0
      have hlL : l.length ≤ L := HB.out.l (v, l) (by show _ ∈ S1.X; rw [hX]; simp)
      have h2 := hs.wout hX ⟨A, c, hv⟩
      obtain ⟨n, hn⟩ : ∃ n, l.length = n := ⟨_, rfl⟩
      rw [hn] at hv hlL
      clear hv0
      subst hv
      have hfk : S1.F[k]? = some (.slice A n c) := by rw [g3, HFF.out.2.2.2, List.getElem?_map, hxk]; rfl
      obtain ⟨b1, o1, z1, e1, _, _, _, _, _, _, q1⟩ := lF.form (by omega)
      injection e1 with e1 _ e1'
      subst e1 e1'
      obtain ⟨b2, o2, z2, e2, _, _, _, _, _, _, q2⟩ := lR.form (by omega)
      injection e2 with e2 _ e2'
      subst e2 e2'
      have x1 := q1 k _ hfk
      have x2 := q2 k _ (bV_at hm)
      have i0 : (0 : Int) ≤ (k : Int) := by omega
      have i1 : (k : Int) < (nF : Int) := by omega
      have j2 : decide ((k : Int) < (nF : Int)) = true := decide_eq_true i1
      obtain ⟨i3, hi3, hz3, hs3, hb3⟩ := binfo bints_info
      obtain ⟨i2, hi2, hz2, hs2, hb2⟩ := binfo bint_info
      have H2 := Lib.hid h2
      have HNX : Hid (l.length = n ∧ True) := ⟨hn, trivial⟩
      have hn4 : n ≤ 4000000000000 := by omega
      clear hx hs hb g2 g3 g4 hhF hhR evF evR lF lR q1 q2 hxk hm hX hxl h2 hfk hn
      go_upto_region 5 with fail
      clear c17 c20 x1 x2
      obtain ⟨w2, hw2⟩ : ∃ x, x = wr := ⟨_, rfl⟩
      subst hw2
      go_wp2_with fail
      go_loopw [4, 5] (fun u i wr => ∃ j : Nat, j ≤ 30 ∧ i = .int .i64 j ∧ Hid (∃ (gl : List Int) (AA : Option Addr) (cc : Nat), u = .slice AA (n + j) cc ∧ gl.length = n + j ∧ Sg w0 (bkT w0.heap.size { S1 with X := XF.drop (k + 1) ++ XW } ++ (Us ++ [thP w0.heap.size (.slice A n c) l u gl])) wr)) (fun _ i _ => 30 - (intOf i).toNat)
      case atStart => exact ⟨0, by omega, rfl, l, A, c, rfl, HNX.out.1, H2.out⟩
      case round =>
        obtain ⟨j, hj, rfl, hx⟩ := hrel
        obtain ⟨gl, AG, cg, rfl, hgl, hs⟩ := hx.out
        have HS := Lib.hid hs
        have HGL : Hid (gl.length = n + j ∧ True) := ⟨hgl, trivial⟩
        have hLg := (hs.ok _ _ last_at).2.2.1
        rw [hgl] at hLg
        have HLG := Lib.hid hLg
        have hwsz := hs.fr.size
        clear hx hs hgl hLg
        obtain ⟨w3, hw3⟩ : ∃ x, x = wr := ⟨_, rfl⟩
        subst hw3
        by_cases hlj : j < 30
        · have k2 : decide ((j : Int) < 30) = true := decide_eq_true (by omega)
          go_wp2_with (at_builtin; refine wpList_append_lstA _ rfl (.tmp 33) (.tmp 39) _ rfl w0.heap.size 3 i2 _ 1 8 Tryz.underlying29 hi2 hz2 hs2 hb2 rfl _ (n + j) (bV gl) rfl (HLG.out.alloc _) ⟨w3.heap.size, 0, none⟩ 1 1 [.int .i64 (wrap64 (wrap64 (m + 6) + 5 * (j : Int)))] rfl rfl (World.news_of_block (heap_alloc_new _ _)) ?cA ?cB ?cC ?cD ?cE)
          case cA => simp [Value.oneCell']
          case cB => unfold maxLen; omega
          case cC => omega
          case cD => first | omega | (simp; omega)
          intro v2 w7 hown hor
          have h3 := HS.out.more (o := .cells #[.int .i64 (wrap64 (wrap64 (m + 6) + 5 * (j : Int)))] 3) HGL.out.1 hown (by
            rcases hor with ⟨⟨A', c', e0, e⟩, hg⟩ | ⟨e, hg⟩
            · exact .inl ⟨⟨A', c', by first | exact e0 | rw [e0.1, e0.2], e⟩, hg⟩
            · exact .inr ⟨by simpa using e, hg⟩)
          obtain ⟨A2, c2, rfl, _, _⟩ := hown.look
          have HX : Hid (∃ (gl : List Int) (AA : Option Addr) (cc : Nat), Value.slice A2 (n + j + 1) c2 = .slice AA (n + (j + 1)) cc ∧ gl.length = n + (j + 1) ∧ Sg w0 (bkT w0.heap.size { S1 with X := XF.drop (k + 1) ++ XW } ++ (Us ++ [thP w0.heap.size (.slice A n c) l (.slice A2 (n + j + 1) c2) gl])) w7) := ⟨_, A2, c2, rfl, by rw [List.length_append, HGL.out.1]; rfl, h3⟩
          clear hown hor h3
          go_wp2_with fail
          go_roundw
          case rel => exact ⟨j + 1, by omega, by go_num, HX.out⟩
          case measure => simp [intOf]; omega
        · obtain rfl : j = 30 := by omega
          have k2 : decide (((30 : Nat) : Int) < 30) = false := by decide
          have k3 : decide ((30 : Int) < 30) = false := by decide
          obtain ⟨N, hN⟩ : ∃ N, n + 30 = N := ⟨_, rfl⟩
          have hN4 : N ≤ 5000000000000 := by omega
          rw [hN] at HS HGL HLG
          simp only [hN]
          clear hN
          go_upto_region 9 with fail
          obtain ⟨nnf, hnf⟩ : ∃ n, (S1.O).length = n := ⟨_, rfl⟩
          have bdf : nnf ≤ 2000000000000 := by have := HB.out.k; rw [HDR.out] at this; simp at this; omega
          obtain ⟨Af, pf, evf, hhf⟩ := HS.out.head (i := 1) (j := 13) (v := S1.vO) (xs := S1.O) g1 rfl hnf rfl
          have EVf := Lib.hid evf
          have HNf := Lib.hid hnf
          have HHf := Lib.hid hhf
          obtain ⟨_, cf, lgf⟩ := hhf w3 (Fr.refl _ _)
          have frf : w3.frozen? ⟨S.g, 13, none⟩ = false := by have := HS.out.book.free 13; rw [show _ = S.g from g1] at this; exact this
          have wsf := HS.out.fr.size
          clear hhf evf hnf
          go_wp2_with (at_builtin; refine wpList_append_lst _ rfl (.tmp 45) (.tmp 47) _ rfl w0.heap.size 29 i3 _ 1 24 Tryz.underlying30 hi3 hz3 hs3 hb3 rfl _ nnf (S1.O) rfl ((HHf.out _ (Fr.refl _ _)).1.alloc _) ⟨w3.heap.size, 0, none⟩ 1 1 [.slice AG N cg] rfl rfl (World.news_of_block (heap_alloc_new _ _)) ?cAf ?cBf ?cCf ?cDf ?cEf)
          case cAf => simp [Value.oneCell']
          case cBf => unfold maxLen; omega
          case cCf => omega
          case cDf => first | omega | (simp; omega)
          intro vf yf hown hgrow hat
          obtain ⟨hBf, hSf⟩ := HS.out.hdr (i := 1) (j := 13) (v := S1.vO) (xs := S1.O) (ys := [.slice AG N cg]) (n := nnf + 1) (S' := { S1 with X := XF.drop (k + 1) ++ XW, vO := vf, O := S1.O ++ [.slice AG N cg] }) g1 rfl (by decide) (by rw [List.length_append, HNf.out]; rfl) hown (by rw [EVf.out]; exact ((Fr.refl _ _).alloc _).grown hgrow (fun k hk => .inl (by simp [hk]))) (by rw [EVf.out]; exact bown (by simp) hat) rfl rfl
          have df := hBf.cell 13
          have gf := hBf.free 13
          obtain ⟨Bf, rf, rfl, _, _⟩ := hown.look
          obtain ⟨wf, hwf⟩ : ∃ w', yf.setCell ⟨S.g, 13, none⟩ (.slice Bf (nnf + 1) rf) = w' := ⟨_, rfl⟩
          rw [hwf] at hSf
          have HSf := Lib.hid hSf
          clear hown hgrow hat hBf hSf cf frf
          go_upto_region 10 with fail
          try rw [hwf]
          clear hwf df gf 
          have HRW : Hid (∀ {Z : World}, Fr [] wf Z → RdV Z (.slice AG N cg) gl) := fun {Z} hf => (HSf.out.ok _ _ last_at).2.2.1.rdv.fr hf (by simp)
          obtain ⟨nnh, hnh⟩ : ∃ n, (S1.T).length = n := ⟨_, rfl⟩
          have bdh : nnh ≤ 2000000000000 := by have h1 := HB.out.t; have := HB.out.k; rw [HDR.out] at this; simp at this h1; omega
          obtain ⟨Ah, ph, evh, hhh⟩ := HSf.out.head (i := 2) (j := 14) (v := S1.vT) (xs := S1.T) g1 rfl hnh rfl
          have EVh := Lib.hid evh
          have HNh := Lib.hid hnh
          have HHh := Lib.hid hhh
          obtain ⟨_, ch, lgh⟩ := hhh wf (Fr.refl _ _)
          have frh : wf.frozen? ⟨S.g, 14, none⟩ = false := by have := HSf.out.book.free 14; rw [show _ = S.g from g1] at this; exact this
          have wsh := HSf.out.fr.size
          clear hhh evh hnh
          have HFIN : Hid (∀ (q v : Value) (Z : World), Sg w0 (bkT w0.heap.size { S1 with X := XF.drop (k + 1) ++ XW, vO := (.slice Bf (nnf + 1) rf), O := S1.O ++ [.slice AG N cg], vT := v, T := S1.T ++ [q] } ++ ((Us ++ [thP w0.heap.size (.slice A n c) l (.slice AG N cg) gl]) ++ [thLst w0.heap.size 3 q (bV gl)])) Z → GrI Us S XF XW K L (k + 1) Z) := fun q v Z hs => by
            have hb := HB.out
            rw [HDR.out] at hb
            refine ⟨_, ?_, ?_, ?_, ?_, ?_, hs.ro.ro2⟩
            · exact g1
            · exact HG2.out
            · exact HF1.out.1
            · exact HF1.out.2
            · exact hb.laid HR1.out
          have HPX : Hid (∀ (q v : Value) (y z : World), Lst y w0.heap.size 3 1 q gl.length (bV gl) → Fr [] wf y → (∀ k, q.ownBlock = some k → wf.heap.size ≤ k) → Lst z w0.heap.size 29 1 v (nnh + 1) (S1.T ++ [q]) → Fr ((Value.slice Ah nnh ph).ownBlock.toList) y z → (∀ k, v.ownBlock = some k → (Value.slice Ah nnh ph).ownBlock = some k ∨ y.heap.size ≤ k) →
              z.cell? ⟨S.g, 14, none⟩ = some (.slice Ah nnh ph) ∧ z.frozen? ⟨S.g, 14, none⟩ = false ∧ Sg w0 (bkT w0.heap.size { S1 with X := XF.drop (k + 1) ++ XW, vO := (.slice Bf (nnf + 1) rf), O := S1.O ++ [.slice AG N cg], vT := v, T := S1.T ++ [q] } ++ ((Us ++ [thP w0.heap.size (.slice A n c) l (.slice AG N cg) gl]) ++ [thLst w0.heap.size 3 q (bV gl)])) (z.setCell ⟨S.g, 14, none⟩ v)) := fun q v y z a1 a2 a3 a4 a5 a6 => by
            have p := HSf.out.push (t := thLst w0.heap.size 3 q (bV gl)) a2 (by show Lst _ _ _ 1 _ (bV gl).length _; rw [bV_len]; exact a1) (fun x hx => a3 x (by simpa [thLst] using hx))
            rw [List.append_assoc] at p
            obtain ⟨b1, b2⟩ := p.hdr (i := 2) (j := 14) (v := S1.vT) (xs := S1.T) (ys := [q]) (n := nnh + 1) (S' := { S1 with X := XF.drop (k + 1) ++ XW, vO := (.slice Bf (nnf + 1) rf), O := S1.O ++ [.slice AG N cg], vT := v, T := S1.T ++ [q] }) g1 rfl (by decide) (by rw [List.length_append, HNh.out]; rfl) a4 (by rw [EVh.out]; exact a5) (by rw [EVh.out]; exact a6) rfl rfl
            have b3 := b1.cell 14
            have b4 := b1.free 14
            rw [← EVh.out]
            exact ⟨b3, b4, b2⟩
          go_region_law
            (first
              | (refine step_copyI (by rfl) _ _ (by rfl) w0.heap.size wf.heap.size (by rfl) (Bk.new_at _ _ _ _ (by simp)) (by omega) AG N cg gl (by rfl) HGL.out.1.symm (HRW.out (by repeat (first | exact Fr.refl _ _ | refine Fr.drew ?_ | refine Fr.alloc ?_ _))) (by first | omega | (simp; omega)) (by first | omega | (simp; omega)) ?_; intro q3 y3 hL3 hg3 ho3; have hf3 : Fr [] wf y3 := (by refine Fr.grown ?_ hg3 (fun k hk => .inr (by injection hk with hk; omega)); repeat (first | exact Fr.refl _ _ | refine Fr.drew ?_ | refine Fr.alloc ?_ _)); obtain ⟨A3, c3, rfl, _, _⟩ := hL3.look; have hcl3 := (HHh.out y3 hf3).2; obtain ⟨cl3, lg3⟩ := hcl3)
              | (refine step_append_lst _ (by rfl) _ _ _ (by rfl) w0.heap.size 29 i3 _ 1 24 Tryz.underlying30 hi3 hz3 hs3 hb3 rfl (.slice Ah nnh ph) nnh (S1.T) (by rfl) ((HHh.out _ (by repeat (first | exact Fr.refl _ _ | exact hf3 | refine Fr.drew ?_ | refine Fr.alloc ?_ _))).1) ⟨y3.heap.size, 0, none⟩ 1 1 [.slice A3 gl.length c3] (by rfl) (by rfl) (World.news_of_block (cs := #[.slice A3 gl.length c3]) (t := 29) (fr := (0, 0)) (Bk.new_at _ _ _ _ (by simp))) (by simp [Value.oneCell']) (by unfold maxLen; omega) (by omega) (by have := hf3.size; first | omega | (simp; omega)) ?_; intro v4 y4 hown hgrow hat; have hq := HPX.out _ v4 y3 y4 hL3 hf3 (fun k hk => by rcases ho3 with e | e <;> rw [e] at hk <;> injection hk with hk <;> (first | omega | (simp at hk; omega))) hown (by refine Fr.grown ?_ hgrow (fun k hk => .inl (by simp [hk])); repeat (first | exact Fr.refl _ _ | refine Fr.drew ?_ | refine Fr.alloc ?_ _)) (bown (by simp) hat); obtain ⟨hc4, hf4, hend⟩ := hq; have HEND := Lib.hid hend; clear hend; obtain ⟨_, _, rfl, _, _⟩ := hown.look))
          all_goals
            go_wp2_with fail
            go_roundw
            case rel => first | exact ⟨k + 1, by omega, by go_num, HFIN.out _ _ _ HEND.out⟩ | exact ⟨k + 1, by omega, by go_num, HFIN.out _ _ _ (HEND.out.nil ((Fr.refl _ _).drew))⟩
            case measure => simp [intOf]; omega
    · obtain rfl : k = nF := by omega
      have j2 : decide ((k : Int) < (k : Int)) = false := decide_eq_false (by omega)
      have f17 : wr.frozen? ⟨S.g, 17, none⟩ = false := by have := H1.out.book.free 17; rw [g1] at this; exact this
      have f20 : wr.frozen? ⟨S.g, 20, none⟩ = false := by have := H1.out.book.free 20; rw [g1] at this; exact this
      have s1 := hs.out1g (S' := { S1 with vF := .slice none 0 0, F := [] }) (i := 5) (j := 17) (v := S1.vF) (xs := S1.F) g1 rfl (by decide) rfl rfl
      have s2 := s1.out1g (S' := { S1 with vF := .slice none 0 0, F := [], vR := .slice none 0 0, R := [] }) (i := 8) (j := 20) (v := S1.vR) (xs := bV S1.R) g1 rfl (by decide) rfl rfl
      have HE : Hid (∃ S', S'.g = S.g ∧ S'.deep = S.deep ∧ BLk S' [] XW [] K L ∧ Sg w0 (bkT w0.heap.size S' ++ Us) ((wr.setCell ⟨S.g, 17, none⟩ (.slice none 0 0)).setCell ⟨S.g, 20, none⟩ (.slice none 0 0))) := by
        have hb := HB.out
        rw [List.drop_eq_nil_of_le (by have := HFF.out.2.2.1; omega)] at hb
        exact ⟨{ S1 with vF := .slice none 0 0, F := [], vR := .slice none 0 0, R := [] }, g1, g2, ⟨hb.x, hb.W, rfl, hb.n, hb.m, hb.d, rfl, hb.t, hb.o, hb.w, hb.k, hb.l⟩, s2⟩
      clear hx hs hb s1 s2 lF lR hhF hhR g2 g3 g4 evF evR
      go_wp2_with fail
      go_returns
      exact ⟨rfl, HE.out⟩
end Go.Proofs.YtdcppdgnekhcgaaGreatDoor
