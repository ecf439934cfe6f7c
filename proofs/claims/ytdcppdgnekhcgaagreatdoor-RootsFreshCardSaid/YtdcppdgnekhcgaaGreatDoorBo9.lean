/-
  The Book of middenkept: Ints.
-/
import Derived.Test.YtdcppdgnekhcgaaGreatDoorBo8
namespace Go.Proofs.YtdcppdgnekhcgaaGreatDoor
open Go.RowKit
set_option linter.unusedVariables false

theorem BLk.more {S : BS} {XW : List (Value × List Int)} {K L : Nat} {v q vW vN vM vD : Value} {l : List Int} {m d dp sn : Int} {FQ : List Nat} (h : BLk S [] XW [] K L) (hl : l.length ≤ L) :
    BLk { S with deep := dp, vW := vW, W := S.W ++ [v], vN := vN, N := S.N ++ [q], Q := S.Q ++ [(q, l)], FQ := FQ, vM := vM, M := S.M ++ [m], vD := vD, D := S.D ++ [d], seen := sn, X := S.X ++ [(v, l)] } [] (XW ++ [(v, l)]) [] (K + 2) L := by
  refine ⟨?_, ?_, h.F, ?_, ?_, ?_, h.r, h.t, fun i p r hp hr => ?_, fun i y p hy hp => ?_, ?_, fun y hy => ?_⟩
  · show S.X ++ [(v, l)] = _
    rw [h.x]; simp
  · show S.W ++ [v] = _
    rw [h.W]; simp
  · show (S.N ++ [q]).length = _
    rw [List.length_append, h.n]; simp
  · show (S.M ++ [m]).length = _
    rw [List.length_append, h.m]; simp
  · show (S.D ++ [d]).length = _
    rw [List.length_append, h.d]; simp
  · obtain ⟨c, h1, h2⟩ := h.o i p r hp hr
    exact ⟨c, List.mem_append_left _ h1, h2.imp (fun k => List.mem_append_left _ k) id⟩
  · have hp : (S.N ++ [q])[i]? = some p := hp
    by_cases e : i < XW.length
    · rw [List.getElem?_append_left e] at hy
      rw [List.getElem?_append_left (by rw [h.n]; exact e)] at hp
      exact List.mem_append_left _ (h.w i y p hy hp)
    · rw [List.getElem?_append_right (by omega)] at hy
      rw [List.getElem?_append_right (by rw [h.n]; omega), h.n] at hp
      by_cases e2 : i - XW.length = 0
      · rw [e2] at hy hp
        have hy : (v, l) = y := by simpa using hy
        have hp : q = p := by simpa using hp
        rw [← hy, ← hp]
        exact List.mem_append_right _ (by simp)
      · rw [List.getElem?_eq_none (by simp; omega)] at hy
        cases hy
  · have := h.k
    simp only [List.length_append, List.length_cons, List.length_nil] at this ⊢
    omega
  · have hy : y ∈ S.X ++ [(v, l)] := hy
    rcases List.mem_append.1 hy with e | e
    · exact h.l y e
    · obtain rfl : y = (v, l) := by simpa using e
      exact hl
set_option maxRecDepth 100000 in
set_option maxHeartbeats 1600000 in
theorem Ints_any {w0 w : World} {Us : List (Th w0.heap.size)} {S : BS} {XW : List (Value × List Int)} {K L : Nat} {j : Nat} {A : Option Addr} {n c : Nat} {l : List Int} (m : Int) (h : Sg w0 (bkT w0.heap.size S ++ Us) w) (hl : BLk S [] XW [] K L) (hd : S.deep = 0) (hn : n = l.length) (hj : Us[j]? = some (thLst w0.heap.size 3 (.slice A n c) (bV l)))
    (hlL : l.length ≤ L) (hK : K ≤ 1000000000000) (hL : L ≤ 4000000000000) :
    Calls Tryz.prog 17 #[.pointer (some ⟨S.g, 0, none⟩), .slice A n c, .int .i64 m] w fun e w' => e = .returned (.tuple #[]) ∧ ∃ S' XW', S'.g = S.g ∧ S'.deep = 0 ∧ BLk S' [] XW' [] (K + 2) L ∧ Sg w0 (bkT w0.heap.size S' ++ Us.set j (thNil w0.heap.size)) w' := by
  have hw0 := h.fr.size
  have c3 : w.cell? ⟨S.g, 3, none⟩ = some (.int .i64 0) := by have := h.book.cell 3; rw [show (bookA S)[3]? = some (.int .i64 S.deep) from rfl, hd] at this; exact this
  have f3 := h.book.free 3
  -- deep
  have h1 := h.cel (S' := { S with deep := 1 }) (j := 3) (u := .int .i64 1) rfl rfl
  obtain ⟨w1, hw1⟩ : ∃ w1, w.setCell ⟨S.g, 3, none⟩ (.int .i64 1) = w1 := ⟨_, rfl⟩
  rw [hw1] at h1
  have H1 := Lib.hid h1
  have hs1 : w0.heap.size ≤ w1.heap.size := h1.fr.size
  obtain ⟨i3, hi3, hz3, hs3, hb3⟩ := binfo bints_info
  obtain ⟨i2, hi2, hz2, hs2, hb2⟩ := binfo bint_info
  have HN := Lib.hid hn
  have hnl : n ≤ 4000000000000 := by omega
  have lg1 := H1.out.book.lt
  clear hn
  have HJ := Lib.hid hj
  have HLK := Lib.hid hl
  have HL9 : Hid (l.length ≤ L) := hlL
  have HD := Lib.hid hd
  clear h h1 hl hj hd
  go_enter Tryz.func17, Tryz.ntmps17
  go_upto_region 1 with fail
  try rw [hw1]
  clear hw1 c3 f3
  obtain ⟨nn1, hn1⟩ : ∃ n, (S.W).length = n := ⟨_, rfl⟩
  have bd1 : nn1 ≤ 2000000000000 := by rw [HLK.out.W, List.length_map] at hn1; have := HLK.out.k; simp at this; omega
  obtain ⟨A1, p1, ev1, hh1⟩ := H1.out.head (i := 3) (j := 15) (v := S.vW) (xs := S.W) rfl rfl hn1 rfl
  have EV1 := Lib.hid ev1
  have HN1 := Lib.hid hn1
  have HH1 := Lib.hid hh1
  obtain ⟨_, c1, lg1⟩ := hh1 w1 (Fr.refl _ _)
  have fr1 : w1.frozen? ⟨S.g, 15, none⟩ = false := by have := H1.out.book.free 15; rw [show _ = S.g from rfl] at this; exact this
  have ws1 := H1.out.fr.size
  clear hh1 ev1 hn1
  go_wp2_with (at_builtin; refine wpList_append_lst _ rfl (.tmp 17) (.tmp 19) _ rfl w0.heap.size 29 i3 _ 1 24 Tryz.underlying30 hi3 hz3 hs3 hb3 rfl _ nn1 (S.W) rfl ((HH1.out _ (Fr.refl _ _)).1.alloc _) ⟨w1.heap.size, 0, none⟩ 1 1 [.slice A n c] rfl rfl (World.news_of_block (heap_alloc_new _ _)) ?cA1 ?cB1 ?cC1 ?cD1 ?cE1)
  case cA1 => simp [Value.oneCell']
  case cB1 => unfold maxLen; omega
  case cC1 => omega
  case cD1 => first | omega | (simp; omega)
  intro v1 y1 hown hgrow hat
  obtain ⟨hB1, hS1⟩ := H1.out.hdr (i := 3) (j := 15) (v := S.vW) (xs := S.W) (ys := [.slice A n c]) (n := nn1 + 1) (S' := { S with deep := 1, vW := v1, W := S.W ++ [.slice A n c] }) rfl rfl (by decide) (by rw [List.length_append, HN1.out]; rfl) hown (by rw [EV1.out]; exact ((Fr.refl _ _).alloc _).grown hgrow (fun k hk => .inl (by simp [hk]))) (by rw [EV1.out]; exact bown (by simp) hat) rfl rfl
  have d1 := hB1.cell 15
  have g1 := hB1.free 15
  obtain ⟨B1, r1, rfl, _, _⟩ := hown.look
  obtain ⟨w1', hw1⟩ : ∃ w', y1.setCell ⟨S.g, 15, none⟩ (.slice B1 (nn1 + 1) r1) = w' := ⟨_, rfl⟩
  rw [hw1] at hS1
  have HS1 := Lib.hid hS1
  clear hown hgrow hat hB1 hS1 c1 fr1
  go_upto_region 2 with fail
  try rw [hw1]
  clear hw1 d1 g1 
  have hj2 : (bkT w0.heap.size { S with deep := 1, vW := (.slice B1 (nn1 + 1) r1), W := S.W ++ [.slice A n c] } ++ Us)[11 + j]? = some (thLst w0.heap.size 3 (.slice A n c) (bV l)) := by
    rw [List.getElem?_append_right (by rw [bkT_len]; omega), bkT_len, Nat.add_sub_cancel_left]
    exact HJ.out
  have LV : Lst w1' w0.heap.size 3 1 (.slice A n c) (bV l).length (bV l) := HS1.out.ok _ _ hj2
  rw [bV_len] at LV
  have HRV : Hid (∀ {Z : World}, Fr [] w1' Z → RdV Z (.slice A n c) l) := fun {Z} hf => LV.rdv.fr hf (by simp)
  clear LV hj2
  obtain ⟨nn2, hn2⟩ : ∃ n, (S.N).length = n := ⟨_, rfl⟩
  have bd2 : nn2 ≤ 2000000000000 := by have := HLK.out.n; have := HLK.out.k; simp at this; omega
  obtain ⟨A2, p2, ev2, hh2⟩ := HS1.out.head (i := 4) (j := 16) (v := S.vN) (xs := S.N) rfl rfl hn2 rfl
  have EV2 := Lib.hid ev2
  have HN2 := Lib.hid hn2
  have HH2 := Lib.hid hh2
  obtain ⟨_, c2, lg2⟩ := hh2 w1' (Fr.refl _ _)
  have fr2 : w1'.frozen? ⟨S.g, 16, none⟩ = false := by have := HS1.out.book.free 16; rw [show _ = S.g from rfl] at this; exact this
  have ws2 := HS1.out.fr.size
  clear hh2 ev2 hn2
  go_cut [] from 23 to 34 (fun wx => Hid (∃ q2 v2, Sg w0 (bkT w0.heap.size { S with deep := 1, vW := (.slice B1 (nn1 + 1) r1), W := S.W ++ [.slice A n c], vN := v2, N := S.N ++ [q2] } ++ (Us ++ [thLst w0.heap.size 3 q2 (bV l)])) wx))
  case first =>
    have HPX : Hid (∀ (q v : Value) (y z : World), Lst y w0.heap.size 3 1 q l.length (bV l) → Fr [] w1' y → (∀ k, q.ownBlock = some k → w1'.heap.size ≤ k) → Lst z w0.heap.size 29 1 v (nn2 + 1) (S.N ++ [q]) → Fr ((Value.slice A2 nn2 p2).ownBlock.toList) y z → (∀ k, v.ownBlock = some k → (Value.slice A2 nn2 p2).ownBlock = some k ∨ y.heap.size ≤ k) →
        z.cell? ⟨S.g, 16, none⟩ = some (.slice A2 nn2 p2) ∧ z.frozen? ⟨S.g, 16, none⟩ = false ∧ Sg w0 (bkT w0.heap.size { S with deep := 1, vW := (.slice B1 (nn1 + 1) r1), W := S.W ++ [.slice A n c], vN := v, N := S.N ++ [q] } ++ (Us ++ [thLst w0.heap.size 3 q (bV l)])) (z.setCell ⟨S.g, 16, none⟩ v)) := fun q v y z a1 a2 a3 a4 a5 a6 => by
      have p := HS1.out.push (t := thLst w0.heap.size 3 q (bV l)) a2 (by show Lst _ _ _ 1 _ (bV l).length _; rw [bV_len]; exact a1) (fun x hx => a3 x (by simpa [thLst] using hx))
      rw [List.append_assoc] at p
      obtain ⟨b1, b2⟩ := p.hdr (i := 4) (j := 16) (v := S.vN) (xs := S.N) (ys := [q]) (n := nn2 + 1) (S' := { S with deep := 1, vW := (.slice B1 (nn1 + 1) r1), W := S.W ++ [.slice A n c], vN := v, N := S.N ++ [q] }) rfl rfl (by decide) (by rw [List.length_append, HN2.out]; rfl) a4 (by rw [EV2.out]; exact a5) (by rw [EV2.out]; exact a6) rfl rfl
      have b3 := b1.cell 16
      have b4 := b1.free 16
      rw [← EV2.out]
      exact ⟨b3, b4, b2⟩
    go_region_law
      (first
        | (refine step_copyI (by rfl) _ _ (by rfl) w0.heap.size w1'.heap.size (by rfl) (Bk.new_at _ _ _ _ (by simp)) (by omega) A n c l (by rfl) HN.out (HRV.out (by repeat (first | exact Fr.refl _ _ | refine Fr.drew ?_ | refine Fr.alloc ?_ _))) (by first | omega | (simp; omega)) (by first | omega | (simp; omega)) ?_; intro q3 y3 hL3 hg3 ho3; have hf3 : Fr [] w1' y3 := (by refine Fr.grown ?_ hg3 (fun k hk => .inr (by injection hk with hk; omega)); repeat (first | exact Fr.refl _ _ | refine Fr.drew ?_ | refine Fr.alloc ?_ _)); obtain ⟨A3, c3, rfl, _, _⟩ := hL3.look; have hcl3 := (HH2.out y3 hf3).2; obtain ⟨cl3, lg3⟩ := hcl3)
        | (refine step_append_lst _ (by rfl) _ _ _ (by rfl) w0.heap.size 29 i3 _ 1 24 Tryz.underlying30 hi3 hz3 hs3 hb3 rfl (.slice A2 nn2 p2) nn2 (S.N) (by rfl) ((HH2.out _ (by repeat (first | exact Fr.refl _ _ | exact hf3 | refine Fr.drew ?_ | refine Fr.alloc ?_ _))).1) ⟨y3.heap.size, 0, none⟩ 1 1 [.slice A3 l.length c3] (by rfl) (by rfl) (World.news_of_block (cs := #[.slice A3 l.length c3]) (t := 29) (fr := (0, 0)) (Bk.new_at _ _ _ _ (by simp))) (by simp [Value.oneCell']) (by unfold maxLen; omega) (by omega) (by have := hf3.size; first | omega | (simp; omega)) ?_; intro v4 y4 hown hgrow hat; have hq := HPX.out _ v4 y3 y4 hL3 hf3 (fun k hk => by rcases ho3 with e | e <;> rw [e] at hk <;> injection hk with hk <;> (first | omega | (simp at hk; omega))) hown (by refine Fr.grown ?_ hgrow (fun k hk => .inl (by simp [hk])); repeat (first | exact Fr.refl _ _ | refine Fr.drew ?_ | refine Fr.alloc ?_ _)) (bown (by simp) hat); obtain ⟨hc4, hf4, hend⟩ := hq; have HEND := Lib.hid hend; clear hend; obtain ⟨_, _, rfl, _, _⟩ := hown.look))
    all_goals
      try go_wp2_with fail
      go_meet
      case rel => first | exact Lib.hid ⟨_, _, HEND.out⟩ | exact Lib.hid ⟨_, _, HEND.out.nil ((Fr.refl _ _).drew)⟩
  obtain ⟨q2, v2, hS2⟩ := hcut.out
  have hS2 := hS2.ro
  obtain ⟨w2, hwc2⟩ : ∃ x, x = wc := ⟨_, rfl⟩
  subst hwc2
  have HS2 := Lib.hid hS2
  clear hcut hS2 c2 fr2
  obtain ⟨nn3, hn3⟩ : ∃ n, (bV (S.M)).length = n := ⟨_, rfl⟩
  have bd3 : nn3 ≤ 2000000000000 := by rw [bV_len] at hn3; have := HLK.out.m; have := HLK.out.k; simp at this; omega
  obtain ⟨A3, p3, ev3, hh3⟩ := HS2.out.head (i := 6) (j := 18) (v := S.vM) (xs := bV (S.M)) rfl rfl hn3 rfl
  have EV3 := Lib.hid ev3
  have HN3 := Lib.hid hn3
  have HH3 := Lib.hid hh3
  obtain ⟨_, c3, lg3⟩ := hh3 w2 (Fr.refl _ _)
  have fr3 : w2.frozen? ⟨S.g, 18, none⟩ = false := by have := HS2.out.book.free 18; rw [show _ = S.g from rfl] at this; exact this
  have ws3 := HS2.out.fr.size
  clear hh3 ev3 hn3
  go_wp2_with (at_builtin; refine wpList_append_lst _ rfl (.tmp 39) (.tmp 41) _ rfl w0.heap.size 3 i2 _ 1 8 Tryz.underlying29 hi2 hz2 hs2 hb2 rfl _ nn3 (bV (S.M)) rfl ((HH3.out _ (Fr.refl _ _)).1.alloc _) ⟨w2.heap.size, 0, none⟩ 1 1 [.int .i64 m] rfl rfl (World.news_of_block (heap_alloc_new _ _)) ?cA3 ?cB3 ?cC3 ?cD3 ?cE3)
  case cA3 => simp [Value.oneCell']
  case cB3 => unfold maxLen; omega
  case cC3 => omega
  case cD3 => first | omega | (simp; omega)
  intro v3 y3 hown hgrow hat
  obtain ⟨hB3, hS3⟩ := HS2.out.hdr (i := 6) (j := 18) (v := S.vM) (xs := bV (S.M)) (ys := [.int .i64 m]) (n := nn3 + 1) (S' := { S with deep := 1, vW := (.slice B1 (nn1 + 1) r1), W := S.W ++ [.slice A n c], vN := v2, N := S.N ++ [q2], Q := S.Q ++ [(q2, l)], FQ := S.FQ ++ q2.ownBlock.toList, vM := v3, M := S.M ++ [m] }) rfl rfl (by decide) (by rw [List.length_append, HN3.out]; rfl) hown (by rw [EV3.out]; exact ((Fr.refl _ _).alloc _).grown hgrow (fun k hk => .inl (by simp [hk]))) (by rw [EV3.out]; exact bown (by simp) hat) rfl (by rw [bV_snoc]; rfl)
  have d3 := hB3.cell 18
  have g3 := hB3.free 18
  obtain ⟨B3, r3, rfl, _, _⟩ := hown.look
  obtain ⟨w3, hw3⟩ : ∃ w', y3.setCell ⟨S.g, 18, none⟩ (.slice B3 (nn3 + 1) r3) = w' := ⟨_, rfl⟩
  rw [hw3] at hS3
  have HS3 := Lib.hid hS3
  clear hown hgrow hat hB3 hS3 c3 fr3
  go_upto_region 4 with fail
  try rw [hw3]
  clear hw3 d3 g3 
  have HDUE : Hid (∀ Z, Fr [] w3 Z → Calls Tryz.prog 57 #[.pointer (some ⟨S.g, 0, none⟩), .int .i64 S.seen] Z fun e w' => ∃ d, e = .returned (.int .i64 d) ∧ Z = w') := fun Z hf => due_any { S with deep := 1, vW := (.slice B1 (nn1 + 1) r1), W := S.W ++ [.slice A n c], vN := v2, N := S.N ++ [q2], Q := S.Q ++ [(q2, l)], FQ := S.FQ ++ q2.ownBlock.toList, vM := (.slice B3 (nn3 + 1) r3), M := S.M ++ [m] } Z S.seen (HS3.out.book.fr hf (by simp))
  have c21 : w3.cell? ⟨S.g, 21, none⟩ = some (.int .i64 S.seen) := HS3.out.book.cell 21
  obtain ⟨nn4, hn4⟩ : ∃ n, (bV (S.D)).length = n := ⟨_, rfl⟩
  have bd4 : nn4 ≤ 2000000000000 := by rw [bV_len] at hn4; have := HLK.out.d; have := HLK.out.k; simp at this; omega
  obtain ⟨A4, p4, ev4, hh4⟩ := HS3.out.head (i := 7) (j := 19) (v := S.vD) (xs := bV (S.D)) rfl rfl hn4 rfl
  have EV4 := Lib.hid ev4
  have HN4 := Lib.hid hn4
  have HH4 := Lib.hid hh4
  obtain ⟨_, c4, lg4⟩ := hh4 w3 (Fr.refl _ _)
  have fr4 : w3.frozen? ⟨S.g, 19, none⟩ = false := by have := HS3.out.book.free 19; rw [show _ = S.g from rfl] at this; exact this
  have ws4 := HS3.out.fr.size
  clear hh4 ev4 hn4
  go_cut [] from 45 to 59 (fun wx => Hid (∃ v4 d, Sg w0 (bkT w0.heap.size { S with deep := 1, vW := (.slice B1 (nn1 + 1) r1), W := S.W ++ [.slice A n c], vN := v2, N := S.N ++ [q2], Q := S.Q ++ [(q2, l)], FQ := S.FQ ++ q2.ownBlock.toList, vM := (.slice B3 (nn3 + 1) r3), M := S.M ++ [m], vD := v4, D := S.D ++ [d] } ++ Us) wx))
  case first =>
    have HPX : Hid (∀ (d : Int) (v4 : Value) (y : World), Lst y w0.heap.size 3 1 v4 (nn4 + 1) (bV (S.D) ++ [.int .i64 d]) → Fr ((Value.slice A4 nn4 p4).ownBlock.toList) w3 y → (∀ k, v4.ownBlock = some k → (Value.slice A4 nn4 p4).ownBlock = some k ∨ w3.heap.size ≤ k) → y.cell? ⟨S.g, 19, none⟩ = some (.slice A4 nn4 p4) ∧ y.frozen? ⟨S.g, 19, none⟩ = false ∧ Sg w0 (bkT w0.heap.size { S with deep := 1, vW := (.slice B1 (nn1 + 1) r1), W := S.W ++ [.slice A n c], vN := v2, N := S.N ++ [q2], Q := S.Q ++ [(q2, l)], FQ := S.FQ ++ q2.ownBlock.toList, vM := (.slice B3 (nn3 + 1) r3), M := S.M ++ [m], vD := v4, D := S.D ++ [d] } ++ Us) (y.setCell ⟨S.g, 19, none⟩ v4))   := fun d v4 y hown hfy hat => by
      obtain ⟨b1, b2⟩ := HS3.out.hdr (i := 7) (j := 19) (v := S.vD) (xs := bV (S.D)) (ys := [.int .i64 d]) (n := nn4 + 1) (S' := { S with deep := 1, vW := (.slice B1 (nn1 + 1) r1), W := S.W ++ [.slice A n c], vN := v2, N := S.N ++ [q2], Q := S.Q ++ [(q2, l)], FQ := S.FQ ++ q2.ownBlock.toList, vM := (.slice B3 (nn3 + 1) r3), M := S.M ++ [m], vD := v4, D := S.D ++ [d] }) rfl rfl (by decide) (by rw [List.length_append, HN4.out]; rfl) hown (by rw [EV4.out]; exact hfy) (by rw [EV4.out]; exact hat) rfl (by rw [bV_snoc]; rfl)
      have b3 := b1.cell 19
      have b4 := b1.free 19
      rw [← EV4.out]
      exact ⟨b3, b4, b2⟩
    go_region_law
      (first
        | (refine step_append_lst _ (by rfl) _ _ _ (by rfl) w0.heap.size 3 i2 _ 1 8 Tryz.underlying29 hi2 hz2 hs2 hb2 rfl (.slice A4 nn4 p4) nn4 (bV (S.D)) (by rfl) ((HH4.out _ (by repeat (first | exact Fr.refl _ _ | refine Fr.drew ?_ | refine Fr.alloc ?_ _))).1) ⟨w3.heap.size, 0, none⟩ 1 1 [.int .i64 d] (by rfl) (by rfl) (World.news_of_block (cs := #[.int .i64 d]) (t := 3) (fr := (0, 0)) (Bk.new_at _ _ _ _ (by simp))) (by simp [Value.oneCell']) (by unfold maxLen; omega) (by omega) (by first | omega | (simp; omega)) ?_; intro v4 y4 hown hgrow hat; have hq := HPX.out _ v4 y4 hown (by refine Fr.grown ?_ hgrow (fun k hk => .inl (by simp [hk])); repeat (first | exact Fr.refl _ _ | refine Fr.drew ?_ | refine Fr.alloc ?_ _)) (bown (by simp) hat); obtain ⟨hc4, hf4, hend⟩ := hq; have HEND := Lib.hid hend; clear hend; obtain ⟨_, _, rfl, _, _⟩ := hown.look)
        | (go_simp; go_at_call 57; refine (HDUE.out _ (by repeat (first | exact Fr.refl _ _ | refine Fr.drew ?_ | refine Fr.alloc ?_ _))).mono ?_; rintro en z ⟨d, rfl, rfl⟩))
    all_goals
      try go_wp2_with fail
      go_meet
      case rel => first | exact Lib.hid ⟨_, _, HEND.out⟩ | exact Lib.hid ⟨_, _, HEND.out.nil ((Fr.refl _ _).drew)⟩
  obtain ⟨v4, d, hS4⟩ := hcut.out
  obtain ⟨w4, hwc4⟩ : ∃ x, x = wc := ⟨_, rfl⟩
  subst hwc4
  have HS4 := Lib.hid hS4
  clear hcut hS4 c4 fr4
  have c21 : w4.cell? ⟨S.g, 21, none⟩ = some (.int .i64 S.seen) := HS4.out.book.cell 21
  have f21 : w4.frozen? ⟨S.g, 21, none⟩ = false := HS4.out.book.free 21
  go_upto_region 5 with fail
  have h5 := HS4.out.cel (S' := { S with deep := 1, vW := (.slice B1 (nn1 + 1) r1), W := S.W ++ [.slice A n c], vN := v2, N := S.N ++ [q2], Q := S.Q ++ [(q2, l)], FQ := S.FQ ++ q2.ownBlock.toList, vM := (.slice B3 (nn3 + 1) r3), M := S.M ++ [m], vD := v4, D := S.D ++ [d], seen := wrap64 (S.seen + 1) }) (j := 21) (u := .int .i64 (wrap64 (S.seen + 1))) rfl rfl
  have h6 := h5.wadd HJ.out
  have hlk : BLk { S with deep := 1, vW := (.slice B1 (nn1 + 1) r1), W := S.W ++ [.slice A n c], vN := v2, N := S.N ++ [q2], Q := S.Q ++ [(q2, l)], FQ := S.FQ ++ q2.ownBlock.toList, vM := (.slice B3 (nn3 + 1) r3), M := S.M ++ [m], vD := v4, D := S.D ++ [d], seen := wrap64 (S.seen + 1), X := S.X ++ [(.slice A n c, l)] } [] (XW ++ [(.slice A n c, l)]) [] (K + 2) L := HLK.out.more HL9.out
  obtain ⟨w5, hw5⟩ : ∃ w', w4.setCell ⟨S.g, 21, none⟩ (.int .i64 (wrap64 (S.seen + 1))) = w' := ⟨_, rfl⟩
  dsimp only at h6
  rw [hw5] at h6
  have HDN := Lib.hid (done_any h6 hlk rfl (by omega) hL)
  clear h5 h6 hlk
  go_upto_region 6 with fail
  try rw [hw5]
  clear hw5 c21 f21
  go_wp2_with fail
  refine (Calls.mono HDN.out ?_)
  rintro e w' ⟨rfl, S', XW', g1, g2, g3, g4⟩
  have HEND : Hid (∃ S' XW', S'.g = S.g ∧ S'.deep = 0 ∧ BLk S' [] XW' [] (K + 2) L ∧ Sg w0 (bkT w0.heap.size S' ++ Us.set j (thNil w0.heap.size)) w') := ⟨S', XW', g1, g2, g3, g4⟩
  clear g1 g2 g3 g4
  go_wp2_with fail
  go_returns
  exact ⟨rfl, HEND.out⟩
end Go.Proofs.YtdcppdgnekhcgaaGreatDoor
