/-
  Bag: tables: Set of a new key, Near.
-/
import Derived.Test.YtdjaalkbpdmdgaaGreatBg3
namespace Go.Proofs.YtdjaalkbpdmdgaaGreat
open Go.RowKit
set_option linter.unusedVariables false

theorem List.take_append_of_le_length' {α : Type} (T E : List α) : (T ++ E).take (T.length + 2) = T ++ E.take 2 := by
  rw [List.take_append]
  simp [List.take_of_length_le]
theorem shift_set (T D zc : List Value) (hz : zc.length = 2) (a b : Value) {m q d : Nat} (hm : T.length = q) (hd : D.length = d) (h2 : m = q + 2) :
    (((T ++ D ++ zc).take m ++ ((T ++ D ++ zc).drop q).take d).set q a).set (q + 1) b = T ++ ([a, b] ++ D) := by
  subst hm hd h2
  rw [List.append_assoc T D zc, List.drop_left' rfl, List.take_left' rfl, List.take_append_of_le_length' T (D ++ zc)]
  obtain ⟨e0, e1, r, he⟩ : ∃ e0 e1 r, D ++ zc = e0 :: e1 :: r := by
    match D, zc, hz with
    | [], [x, y], _ => exact ⟨x, y, [], rfl⟩
    | [d], [x, y], _ => exact ⟨d, x, [y], rfl⟩
    | d :: d' :: D, zc, _ => exact ⟨d, d', D ++ zc, rfl⟩
  rw [he]
  simp

set_option maxRecDepth 100000 in
set_option maxHeartbeats 1600000 in
theorem tbN_set_new (b0 g : Nat) (v : Value) (l : List PN) (k : Int) (x : Int) (w : World) (h : TbN b0 w g v l) (hl : l.length ≤ 1000000000) (hb : pbN l k = false) (hb0 : b0 ≤ w.heap.size) :
    Calls Tryz.prog 56 #[.pointer (some ⟨g, 0, none⟩), kN k, vN x] w (TbNTo b0 g v (tsetN l k x) (.bool true) w) := by
  obtain ⟨ti, hti, htz, hts, htb⟩ := info_parts' pairN_info
  have hQl := plN_le l k
  obtain ⟨Q, hQ⟩ : ∃ Q, plN l k = Q := ⟨_, rfl⟩
  have hres : tsetN l k x = l.take Q ++ [(k, x)] ++ l.drop Q := by
    unfold tsetN
    rw [hb, hQ]
    rfl
  obtain ⟨n, hn⟩ : ∃ n, l.length = n := ⟨_, rfl⟩
  have hL := h.L
  rw [hn] at hL hl hQl
  rw [hQ] at hQl
  obtain ⟨A, cp, rfl, _, _⟩ := hL.look
  have HPL : Hid (Calls Tryz.prog 90 #[.slice A n cp, kN k] w fun e w' => e = .returned (.tuple #[.int .i64 (Q : Nat), .bool false]) ∧ w = w') := by
    have := placeN b0 _ l k w h.L (by omega)
    rw [hQ, hb] at this
    exact this
  have c0 : w.cell? ⟨g, 0, none⟩ = some (.slice A n cp) := h.B.cell 0
  have HB := Lib.hid h.B
  have HGB := Lib.hid h.b
  have HL := Lib.hid hL
  have HRES := Lib.hid hres
  have HN := Lib.hid hn
  clear h hb hL hQ hres hn
  unfold kN vN at *
  go_enter Tryz.func56, Tryz.ntmps56
  go_wp2_with fail
  refine (Calls.mono HPL.out ?_)
  rintro e w1 ⟨rfl, rfl⟩
  go_wp2_with (at_builtin; refine wpList_append_lst _ rfl (.tmp 31) (.tmp 33) _ rfl b0 138 ti _ 2 16 Tryz.underlying125 hti htz hts htb rfl _ n (cellsN l) rfl (HL.out.alloc _) ⟨w.heap.size, 0, none⟩ 1 1 [Value.int .i64 0, Value.int .u64 0] rfl rfl (World.news_of_block (heap_alloc_new _ _)) ?c2 ?c3 ?c4 ?c5 ?c6)
  case c2 => simp [Value.oneCell']
  case c3 => unfold maxLen; omega
  case c4 => omega
  case c5 => first | omega | (simp; omega)
  case c6 =>
    intro v2 w7 hown hgrow hat
    have hne : ∀ j, (Value.slice A n cp).ownBlock = some j → j ≠ g := HL.out.ne_bk HB.out (by decide)
    have hfr : Fr (Value.slice A n cp).ownBlock.toList w w7 := ((Fr.refl _ _).alloc _).grown hgrow (fun j hj => .inl (by simp [hj]))
    have HB7 := Lib.hid (HB.out.fr hfr (fun hx => hne _ (by simpa using hx) rfl))
    have HF7 : Hid (Fr (skT g (.slice A n cp)) w w7) := hfr.mono (fun j hj => .inl (by unfold skT; exact List.mem_cons_of_mem _ hj))
    have HL7 : Hid (Lst w7 b0 138 2 v2 (n + 1) (cellsN l ++ [Value.int .i64 0, Value.int .u64 0])) := hown
    have HA7 : Hid (∀ j, v2.ownBlock = some j → (Value.slice A n cp).ownBlock = some j ∨ w.heap.size ≤ j) := fun j hj => by
      rcases hat with e | e
      · exact .inl (e ▸ hj)
      · rw [e] at hj
        injection hj with hj
        refine .inr ?_
        rw [← hj]
        simp
    have hne2 : ∀ j, v2.ownBlock = some j → j ≠ g := HL7.out.ne_bk HB7.out (by decide)
    obtain ⟨b2, o2, cap2, rfl, hbb, hbl, hcn, hcm, _, hfz, _⟩ := HL7.out.form (by omega)
    have hbg : b2 ≠ g := hne2 b2 rfl
    have cz := HB7.out.cell 0
    have fz := HB7.out.free 0
    have hcl : cap2 ≤ 9223372036854775807 := by unfold maxLen at hcm; omega
    clear hown hgrow hat hfr hne c0
    go_upto_region 6 with fail
    obtain ⟨y, hy⟩ : ∃ y, y = w7.setCell ⟨g, 0, none⟩ (.slice (some ⟨b2, o2, none⟩) (n + 1) cap2) := ⟨_, rfl⟩
    obtain ⟨z, hz⟩ : ∃ z, z = y.drew := ⟨_, rfl⟩
    have HBz : Hid (Bk z g 127 #[.slice (some ⟨b2, o2, none⟩) (n + 1) cap2]) := by rw [hz, hy]; exact (HB7.out.put 0 _).drew
    have HLz : Hid (Lst z b0 138 2 (.slice (some ⟨b2, o2, none⟩) (n + 1) cap2) (n + 1) (cellsN l ++ [Value.int .i64 0, Value.int .u64 0])) := by rw [hz, hy]; exact (HL7.out.far (p := ⟨g, 0, none⟩) hne2 _).drew
    have HFz : Hid (Fr (skT g (.slice A n cp)) w z) := by rw [hz, hy]; exact (HF7.out.setCell (.inl (by simp [skT])) _).drew
    have HZ := Lib.hid hz
    have cgz : z.cell? ⟨g, 0, none⟩ = some (.slice (some ⟨b2, o2, none⟩) (n + 1) cap2) := HBz.out.cell 0
    change Code.wp _ _ _ _ (w7.setCell ⟨g, 0, none⟩ (.slice (some ⟨b2, o2, none⟩) (n + 1) cap2))
    rw [← hy]
    clear hy hz HB7 HL7 HF7 cz fz
    obtain ⟨w8, hcp, hL8, hf8⟩ := copy_on (P := Tryz.prog) (ts := 125) (ty := 3) HLz.out hQl Tryz.underlying125 pairN_size (fun u hu => by
      rcases List.mem_append.1 hu with hu | hu
      · exact cells2_one _ _ (fun _ => rfl) (fun _ => rfl) l u hu
      · simp only [List.mem_cons, List.not_mem_nil, or_false] at hu
        rcases hu with rfl | rfl <;> rfl)
    have i0 : (0 : Int) ≤ (Q : Int) := by omega
    have i1 : (0 : Int) ≤ (Q : Int) + 1 := by omega
    have i2 : (Q : Int) + 1 ≤ (n : Int) + 1 := by omega
    have i3 : (Q : Int) ≤ (n : Int) + 1 := by omega
    have i4 : IntKind.i64.wrap ((Q : Int) + 1) = (Q : Int) + 1 := IntWalk.i64_in _ (by omega)
    have i5 : ((Q : Int) + 1).toNat = Q + 1 := by omega
    have i6 : (Q : Int) + 1 ≤ (cap2 : Int) := by omega
    have i7 : (Q : Int) ≤ (cap2 : Int) := by omega
    have i8 : ((n + 1 : Nat) : Int) = (n : Int) + 1 := by omega
    have i9 : (Q : Int) + 1 ≤ ((n + 1 : Nat) : Int) := by omega
    have i10 : (Q : Int) ≤ ((n + 1 : Nat) : Int) := by omega
    have i11 : cap2 ≠ Q := by omega
    obtain ⟨b8, o8, cp8, hv8, _, _, _, _, _, hfz8, hcell8⟩ := hL8.form (by omega)
    injection hv8 with e1 _ e2
    injection e1 with e1
    injection e1 with e1 e3 _
    subst e1 e2 e3
    have hlen8 := hL8.1
    obtain ⟨u0, hu0⟩ : ∃ u, ((cellsN l ++ [Value.int .i64 0, Value.int .u64 0]).take ((Q + 1) * 2) ++ ((cellsN l ++ [Value.int .i64 0, Value.int .u64 0]).drop (Q * 2)).take ((n - Q) * 2))[Q * 2]? = some u := ⟨_, List.getElem?_eq_getElem (by omega)⟩
    obtain ⟨u1, hu1⟩ : ∃ u, ((cellsN l ++ [Value.int .i64 0, Value.int .u64 0]).take ((Q + 1) * 2) ++ ((cellsN l ++ [Value.int .i64 0, Value.int .u64 0]).drop (Q * 2)).take ((n - Q) * 2))[Q * 2 + 1]? = some u := ⟨_, List.getElem?_eq_getElem (by omega)⟩
    have cq0 := hcell8 _ _ hu0
    have cq1 := hcell8 _ _ hu1
    rw [← Nat.add_assoc] at cq1
    have fq0 := hfz8 (o2 + Q * 2)
    have fq1 := hfz8 (o2 + Q * 2 + 1)
    have hB8 : Bk w8 g 127 #[.slice (some ⟨b2, o2, none⟩) (n + 1) cap2] := HBz.out.fr hf8 (by simpa using hbg.symm)
    have c8 := hB8.cell 0
    have HEND : Hid (∃ v', TbN b0 ((w8.setCell ⟨b2, o2 + Q * 2, none⟩ (kN k)).setCell ⟨b2, o2 + Q * 2 + 1, none⟩ (vN x)) g v' (tsetN l k x) ∧ Fr (skT g (.slice A n cp)) w ((w8.setCell ⟨b2, o2 + Q * 2, none⟩ (kN k)).setCell ⟨b2, o2 + Q * 2 + 1, none⟩ (vN x)) ∧ ∀ j ∈ skT g v', j ∈ skT g (.slice A n cp) ∨ w.heap.size ≤ j) := by
      have hb2 : b2 ∈ skT g (.slice A n cp) ∨ w.heap.size ≤ b2 := by
        rcases HA7.out b2 rfl with e | e
        · exact .inl (by simp [skT, e])
        · exact .inr e
      refine ⟨.slice (some ⟨b2, o2, none⟩) (n + 1) cap2, ⟨(hB8.far (p := ⟨b2, o2 + Q * 2, none⟩) hbg.symm _).far (p := ⟨b2, o2 + Q * 2 + 1, none⟩) hbg.symm _, ?_, HGB.out⟩, ((HFz.out.trans hf8 (fun j hj => by have : j = b2 := (by simpa using hj); subst this; exact hb2)).setCell hb2 _).setCell hb2 _, fun j hj => ?_⟩
      · have h1 := (hL8.put (j := Q * 2) (kN k)).put (j := Q * 2 + 1) (vN x)
        rw [← Nat.add_assoc] at h1
        have h2 : cellsN (tsetN l k x) = cellsN (l.take Q) ++ ([kN k, vN x] ++ cellsN (l.drop Q)) := by
          rw [HRES.out]
          unfold cellsN
          rw [cells2_append, cells2_append, List.append_assoc]
          rfl
        have h3 : cellsN l = cellsN (l.take Q) ++ cellsN (l.drop Q) := by
          unfold cellsN
          rw [← cells2_append, List.take_append_drop]
        have h4 : (tsetN l k x).length = n + 1 := by
          rw [HRES.out]
          simp only [List.length_append, List.length_take, List.length_drop, List.length_cons, List.length_nil, HN.out]
          omega
        rw [h3, shift_set (cellsN (l.take Q)) (cellsN (l.drop Q)) [Value.int .i64 0, Value.int .u64 0] rfl (kN k) (vN x) (q := Q * 2) (d := (n - Q) * 2) (m := (Q + 1) * 2) (by unfold cellsN; rw [cells2_length, List.length_take, HN.out]; omega) (by unfold cellsN; rw [cells2_length, List.length_drop, HN.out]) (by omega), ← h2] at h1
        rw [h4]
        exact h1
      · simp only [skT, List.mem_cons, Option.mem_toList] at hj ⊢
        rcases hj with e | e
        · exact .inl (.inl e)
        · rcases HA7.out j e with e | e
          · exact .inl (.inr e)
          · exact .inr e
    unfold kN vN at HEND
    clear hu0 hu1 hcell8 hfz8 hlen8 hL8 hf8 hB8 hfz
    by_cases hc : cap2 = Q + 1
    · subst hc
      obtain rfl : n = Q := by omega
      simp only [if_true, Nat.sub_self, Nat.add_sub_cancel_left] at hcp
      refine wp_region_still_tail 13 (by kernel_rfl) (by kernel_rfl) ?_
      change wpStill _ _ y.drew _ _ _
      rw [← HZ.out]
      simp only [List.take_succ_cons, List.take_zero, List.drop_succ_cons, List.drop_zero]
      repeat still_step
      refine wpStill_nil ?_
      change wpList _ _ _ _ _ y.drew
      rw [← HZ.out]
      go_wp2_with fail
      go_ret
      exact ⟨rfl, HEND.out⟩
    · rw [if_neg hc] at hcp
      refine wp_region_still_tail 13 (by kernel_rfl) (by kernel_rfl) ?_
      change wpStill _ _ y.drew _ _ _
      rw [← HZ.out]
      simp only [List.take_succ_cons, List.take_zero, List.drop_succ_cons, List.drop_zero]
      repeat still_step
      refine wpStill_nil ?_
      change wpList _ _ _ _ _ y.drew
      rw [← HZ.out]
      go_wp2_with fail
      go_ret
      exact ⟨rfl, HEND.out⟩

set_option maxRecDepth 100000 in
set_option maxHeartbeats 1600000 in
theorem tbT_set_new (b0 g : Nat) (v : Value) (l : List PT) (k : ByteArray) (x : Int) (w : World) (h : TbT b0 w g v l) (hl : l.length ≤ 1000000000) (hb : pbT l k = false) (hb0 : b0 ≤ w.heap.size) :
    Calls Tryz.prog 66 #[.pointer (some ⟨g, 0, none⟩), kT k, vT x] w (TbTTo b0 g v (tsetT l k x) (.bool true) w) := by
  obtain ⟨ti, hti, htz, hts, htb⟩ := info_parts' pairT_info
  have hQl := plT_le l k
  obtain ⟨Q, hQ⟩ : ∃ Q, plT l k = Q := ⟨_, rfl⟩
  have hres : tsetT l k x = l.take Q ++ [(k, x)] ++ l.drop Q := by
    unfold tsetT
    rw [hb, hQ]
    rfl
  obtain ⟨n, hn⟩ : ∃ n, l.length = n := ⟨_, rfl⟩
  have hL := h.L
  rw [hn] at hL hl hQl
  rw [hQ] at hQl
  obtain ⟨A, cp, rfl, _, _⟩ := hL.look
  have HPL : Hid (Calls Tryz.prog 95 #[.slice A n cp, kT k] w fun e w' => e = .returned (.tuple #[.int .i64 (Q : Nat), .bool false]) ∧ w = w') := by
    have := placeT b0 _ l k w h.L (by omega)
    rw [hQ, hb] at this
    exact this
  have c0 : w.cell? ⟨g, 0, none⟩ = some (.slice A n cp) := h.B.cell 0
  have HB := Lib.hid h.B
  have HGB := Lib.hid h.b
  have HL := Lib.hid hL
  have HRES := Lib.hid hres
  have HN := Lib.hid hn
  clear h hb hL hQ hres hn
  unfold kT vT at *
  go_enter Tryz.func66, Tryz.ntmps66
  go_wp2_with fail
  refine (Calls.mono HPL.out ?_)
  rintro e w1 ⟨rfl, rfl⟩
  go_wp2_with (at_builtin; refine wpList_append_lst _ rfl (.tmp 31) (.tmp 33) _ rfl b0 145 ti _ 2 24 Tryz.underlying128 hti htz hts htb rfl _ n (cellsT l) rfl (HL.out.alloc _) ⟨w.heap.size, 0, none⟩ 1 1 [Value.string ⟨#[]⟩, Value.int .i64 0] rfl rfl (World.news_of_block (heap_alloc_new _ _)) ?c2 ?c3 ?c4 ?c5 ?c6)
  case c2 => simp [Value.oneCell']
  case c3 => unfold maxLen; omega
  case c4 => omega
  case c5 => first | omega | (simp; omega)
  case c6 =>
    intro v2 w7 hown hgrow hat
    have hne : ∀ j, (Value.slice A n cp).ownBlock = some j → j ≠ g := HL.out.ne_bk HB.out (by decide)
    have hfr : Fr (Value.slice A n cp).ownBlock.toList w w7 := ((Fr.refl _ _).alloc _).grown hgrow (fun j hj => .inl (by simp [hj]))
    have HB7 := Lib.hid (HB.out.fr hfr (fun hx => hne _ (by simpa using hx) rfl))
    have HF7 : Hid (Fr (skT g (.slice A n cp)) w w7) := hfr.mono (fun j hj => .inl (by unfold skT; exact List.mem_cons_of_mem _ hj))
    have HL7 : Hid (Lst w7 b0 145 2 v2 (n + 1) (cellsT l ++ [Value.string ⟨#[]⟩, Value.int .i64 0])) := hown
    have HA7 : Hid (∀ j, v2.ownBlock = some j → (Value.slice A n cp).ownBlock = some j ∨ w.heap.size ≤ j) := fun j hj => by
      rcases hat with e | e
      · exact .inl (e ▸ hj)
      · rw [e] at hj
        injection hj with hj
        refine .inr ?_
        rw [← hj]
        simp
    have hne2 : ∀ j, v2.ownBlock = some j → j ≠ g := HL7.out.ne_bk HB7.out (by decide)
    obtain ⟨b2, o2, cap2, rfl, hbb, hbl, hcn, hcm, _, hfz, _⟩ := HL7.out.form (by omega)
    have hbg : b2 ≠ g := hne2 b2 rfl
    have cz := HB7.out.cell 0
    have fz := HB7.out.free 0
    have hcl : cap2 ≤ 9223372036854775807 := by unfold maxLen at hcm; omega
    clear hown hgrow hat hfr hne c0
    go_upto_region 6 with fail
    obtain ⟨y, hy⟩ : ∃ y, y = w7.setCell ⟨g, 0, none⟩ (.slice (some ⟨b2, o2, none⟩) (n + 1) cap2) := ⟨_, rfl⟩
    obtain ⟨z, hz⟩ : ∃ z, z = y.drew := ⟨_, rfl⟩
    have HBz : Hid (Bk z g 130 #[.slice (some ⟨b2, o2, none⟩) (n + 1) cap2]) := by rw [hz, hy]; exact (HB7.out.put 0 _).drew
    have HLz : Hid (Lst z b0 145 2 (.slice (some ⟨b2, o2, none⟩) (n + 1) cap2) (n + 1) (cellsT l ++ [Value.string ⟨#[]⟩, Value.int .i64 0])) := by rw [hz, hy]; exact (HL7.out.far (p := ⟨g, 0, none⟩) hne2 _).drew
    have HFz : Hid (Fr (skT g (.slice A n cp)) w z) := by rw [hz, hy]; exact (HF7.out.setCell (.inl (by simp [skT])) _).drew
    have HZ := Lib.hid hz
    have cgz : z.cell? ⟨g, 0, none⟩ = some (.slice (some ⟨b2, o2, none⟩) (n + 1) cap2) := HBz.out.cell 0
    change Code.wp _ _ _ _ (w7.setCell ⟨g, 0, none⟩ (.slice (some ⟨b2, o2, none⟩) (n + 1) cap2))
    rw [← hy]
    clear hy hz HB7 HL7 HF7 cz fz
    obtain ⟨w8, hcp, hL8, hf8⟩ := copy_on (P := Tryz.prog) (ts := 128) (ty := 3) HLz.out hQl Tryz.underlying128 pairT_size (fun u hu => by
      rcases List.mem_append.1 hu with hu | hu
      · exact cells2_one _ _ (fun _ => rfl) (fun _ => rfl) l u hu
      · simp only [List.mem_cons, List.not_mem_nil, or_false] at hu
        rcases hu with rfl | rfl <;> rfl)
    have i0 : (0 : Int) ≤ (Q : Int) := by omega
    have i1 : (0 : Int) ≤ (Q : Int) + 1 := by omega
    have i2 : (Q : Int) + 1 ≤ (n : Int) + 1 := by omega
    have i3 : (Q : Int) ≤ (n : Int) + 1 := by omega
    have i4 : IntKind.i64.wrap ((Q : Int) + 1) = (Q : Int) + 1 := IntWalk.i64_in _ (by omega)
    have i5 : ((Q : Int) + 1).toNat = Q + 1 := by omega
    have i6 : (Q : Int) + 1 ≤ (cap2 : Int) := by omega
    have i7 : (Q : Int) ≤ (cap2 : Int) := by omega
    have i8 : ((n + 1 : Nat) : Int) = (n : Int) + 1 := by omega
    have i9 : (Q : Int) + 1 ≤ ((n + 1 : Nat) : Int) := by omega
    have i10 : (Q : Int) ≤ ((n + 1 : Nat) : Int) := by omega
    have i11 : cap2 ≠ Q := by omega
    obtain ⟨b8, o8, cp8, hv8, _, _, _, _, _, hfz8, hcell8⟩ := hL8.form (by omega)
    injection hv8 with e1 _ e2
    injection e1 with e1
    injection e1 with e1 e3 _
    subst e1 e2 e3
    have hlen8 := hL8.1
    obtain ⟨u0, hu0⟩ : ∃ u, ((cellsT l ++ [Value.string ⟨#[]⟩, Value.int .i64 0]).take ((Q + 1) * 2) ++ ((cellsT l ++ [Value.string ⟨#[]⟩, Value.int .i64 0]).drop (Q * 2)).take ((n - Q) * 2))[Q * 2]? = some u := ⟨_, List.getElem?_eq_getElem (by omega)⟩
    obtain ⟨u1, hu1⟩ : ∃ u, ((cellsT l ++ [Value.string ⟨#[]⟩, Value.int .i64 0]).take ((Q + 1) * 2) ++ ((cellsT l ++ [Value.string ⟨#[]⟩, Value.int .i64 0]).drop (Q * 2)).take ((n - Q) * 2))[Q * 2 + 1]? = some u := ⟨_, List.getElem?_eq_getElem (by omega)⟩
    have cq0 := hcell8 _ _ hu0
    have cq1 := hcell8 _ _ hu1
    rw [← Nat.add_assoc] at cq1
    have fq0 := hfz8 (o2 + Q * 2)
    have fq1 := hfz8 (o2 + Q * 2 + 1)
    have hB8 : Bk w8 g 130 #[.slice (some ⟨b2, o2, none⟩) (n + 1) cap2] := HBz.out.fr hf8 (by simpa using hbg.symm)
    have c8 := hB8.cell 0
    have HEND : Hid (∃ v', TbT b0 ((w8.setCell ⟨b2, o2 + Q * 2, none⟩ (kT k)).setCell ⟨b2, o2 + Q * 2 + 1, none⟩ (vT x)) g v' (tsetT l k x) ∧ Fr (skT g (.slice A n cp)) w ((w8.setCell ⟨b2, o2 + Q * 2, none⟩ (kT k)).setCell ⟨b2, o2 + Q * 2 + 1, none⟩ (vT x)) ∧ ∀ j ∈ skT g v', j ∈ skT g (.slice A n cp) ∨ w.heap.size ≤ j) := by
      have hb2 : b2 ∈ skT g (.slice A n cp) ∨ w.heap.size ≤ b2 := by
        rcases HA7.out b2 rfl with e | e
        · exact .inl (by simp [skT, e])
        · exact .inr e
      refine ⟨.slice (some ⟨b2, o2, none⟩) (n + 1) cap2, ⟨(hB8.far (p := ⟨b2, o2 + Q * 2, none⟩) hbg.symm _).far (p := ⟨b2, o2 + Q * 2 + 1, none⟩) hbg.symm _, ?_, HGB.out⟩, ((HFz.out.trans hf8 (fun j hj => by have : j = b2 := (by simpa using hj); subst this; exact hb2)).setCell hb2 _).setCell hb2 _, fun j hj => ?_⟩
      · have h1 := (hL8.put (j := Q * 2) (kT k)).put (j := Q * 2 + 1) (vT x)
        rw [← Nat.add_assoc] at h1
        have h2 : cellsT (tsetT l k x) = cellsT (l.take Q) ++ ([kT k, vT x] ++ cellsT (l.drop Q)) := by
          rw [HRES.out]
          unfold cellsT
          rw [cells2_append, cells2_append, List.append_assoc]
          rfl
        have h3 : cellsT l = cellsT (l.take Q) ++ cellsT (l.drop Q) := by
          unfold cellsT
          rw [← cells2_append, List.take_append_drop]
        have h4 : (tsetT l k x).length = n + 1 := by
          rw [HRES.out]
          simp only [List.length_append, List.length_take, List.length_drop, List.length_cons, List.length_nil, HN.out]
          omega
        rw [h3, shift_set (cellsT (l.take Q)) (cellsT (l.drop Q)) [Value.string ⟨#[]⟩, Value.int .i64 0] rfl (kT k) (vT x) (q := Q * 2) (d := (n - Q) * 2) (m := (Q + 1) * 2) (by unfold cellsT; rw [cells2_length, List.length_take, HN.out]; omega) (by unfold cellsT; rw [cells2_length, List.length_drop, HN.out]) (by omega), ← h2] at h1
        rw [h4]
        exact h1
      · simp only [skT, List.mem_cons, Option.mem_toList] at hj ⊢
        rcases hj with e | e
        · exact .inl (.inl e)
        · rcases HA7.out j e with e | e
          · exact .inl (.inr e)
          · exact .inr e
    unfold kT vT at HEND
    clear hu0 hu1 hcell8 hfz8 hlen8 hL8 hf8 hB8 hfz
    by_cases hc : cap2 = Q + 1
    · subst hc
      obtain rfl : n = Q := by omega
      simp only [if_true, Nat.sub_self, Nat.add_sub_cancel_left] at hcp
      refine wp_region_still_tail 13 (by kernel_rfl) (by kernel_rfl) ?_
      change wpStill _ _ y.drew _ _ _
      rw [← HZ.out]
      simp only [List.take_succ_cons, List.take_zero, List.drop_succ_cons, List.drop_zero]
      repeat still_step
      refine wpStill_nil ?_
      change wpList _ _ _ _ _ y.drew
      rw [← HZ.out]
      go_wp2_with fail
      go_ret
      exact ⟨rfl, HEND.out⟩
    · rw [if_neg hc] at hcp
      refine wp_region_still_tail 13 (by kernel_rfl) (by kernel_rfl) ?_
      change wpStill _ _ y.drew _ _ _
      rw [← HZ.out]
      simp only [List.take_succ_cons, List.take_zero, List.drop_succ_cons, List.drop_zero]
      repeat still_step
      refine wpStill_nil ?_
      change wpList _ _ _ _ _ y.drew
      rw [← HZ.out]
      go_wp2_with fail
      go_ret
      exact ⟨rfl, HEND.out⟩
end Go.Proofs.YtdjaalkbpdmdgaaGreat
