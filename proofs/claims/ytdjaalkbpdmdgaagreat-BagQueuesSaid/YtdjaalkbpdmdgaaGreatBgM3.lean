/-
  Bag: the desk's calls of a queue: Map.
-/
import Derived.Test.YtdjaalkbpdmdgaaGreatBgM2
namespace Go.Proofs.YtdjaalkbpdmdgaaGreat
open Go.RowKit
set_option linter.unusedVariables false

theorem wrapEq' (x : Int) : IntKind.i64.wrap x = wrap64 x := by rw [IntKind.wrap_i64]; unfold wrap64; rfl
set_option maxRecDepth 100000 in
set_option maxHeartbeats 1600000 in
theorem d_queue_map {w0 w : World} {Ts : List (Th w0.heap.size)} {gd i gs gr ja jb : Nat} {cs : Array Value} {most : Int} {v v2 : Value} {L : List Int} (hi : i < 2) (h : Sg w0 Ts w) (hd : Ts[0]? = some (thBox w0.heap.size gd 52 cs)) (hc0 : cs[2 + i]? = some (.pointer (some ⟨gs, 0, none⟩))) (hc1 : cs[12 + i]? = some (.pointer (some ⟨gr, 0, none⟩))) (ha : Ts[ja]? = some (thSk 122 w0.heap.size gs most v (L))) (hb : Ts[jb]? = some (thNb 77 3 w0.heap.size gr v2 most (iV L))) (hab : ja ≠ jb) (h0a : ja ≠ 0) (h0b : jb ≠ 0) (hL : L.length ≤ 100000) (s : Bool) (n : Int) (x : Int) (str : ByteArray) (stop : Int) :
    Calls Tryz.prog 21 #[.pointer (some ⟨gd, 0, none⟩), .agg #[.int .i64 7, .bool s, .int .i64 n, .int .u64 x, .string str, .int .i64 stop], .int .i64 i] w (DoN w0 Ts 122 (fun L => L) gs gr most ja jb (L.map (f3 n))) := by
  have hla := (List.getElem?_eq_some_iff.1 ha).1
  have hlb := (List.getElem?_eq_some_iff.1 hb).1
  have hl0 := (List.getElem?_eq_some_iff.1 hd).1
  obtain ⟨kb, hkb⟩ : ∃ kb, w.heap.size = kb := ⟨_, rfl⟩
  obtain ⟨OP, hOP⟩ : ∃ OP : Array Value, #[.int .i64 7, .bool s, .int .i64 n, .int .u64 x, .string str, .int .i64 stop] = OP := ⟨_, rfl⟩
  have h1 := h.box 31 OP
  rw [hkb] at h1
  obtain ⟨Tx, hTx⟩ : ∃ Tx, Ts ++ [thBox w0.heap.size kb 31 OP] = Tx := ⟨_, rfl⟩
  rw [hTx] at h1
  have ta : Tx[ja]? = some (thSk 122 w0.heap.size gs most v (L)) := by rw [← hTx, List.getElem?_append_left hla]; exact ha
  have tb : Tx[jb]? = some (thNb 77 3 w0.heap.size gr v2 most (iV L)) := by rw [← hTx, List.getElem?_append_left hlb]; exact hb
  have t0 : Tx[0]? = some (thBox w0.heap.size gd 52 cs) := by rw [← hTx, List.getElem?_append_left hl0]; exact hd
  have tx : Tx[Ts.length]? = some (thBox w0.heap.size kb 31 OP) := by rw [← hTx, List.getElem?_append_right (Nat.le_refl _)]; simp
  obtain ⟨wa, hwa⟩ : ∃ wa, wa = w.alloc (.cells OP 31) := ⟨_, rfl⟩
  rw [← hwa] at h1
  have HOP : Hid (∀ Z, Bk Z kb 31 OP → Z.cell? ⟨kb, 0, none⟩ = some (.int .i64 7) ∧ Z.cell? ⟨kb, 2, none⟩ = some (.int .i64 n) ∧ Z.cell? ⟨kb, 5, none⟩ = some (.int .i64 stop)) := fun Z hz => by
    rw [← hOP] at hz
    exact ⟨hz.cell 0, hz.cell 2, hz.cell 5⟩
  have d0 : w.cell? ⟨gd, 2 + i, none⟩ = some (.pointer (some ⟨gs, 0, none⟩)) := by rw [(h.bk hd).cell]; exact hc0
  have d1 : w.cell? ⟨gd, 12 + i, none⟩ = some (.pointer (some ⟨gr, 0, none⟩)) := by rw [(h.bk hd).cell]; exact hc1
  have hgl : gd < w.heap.size := (h.bk hd).lt
  have d0' : wa.cell? ⟨gd, 2 + i, none⟩ = some (.pointer (some ⟨gs, 0, none⟩)) := by rw [(h1.bk t0).cell]; exact hc0
  have d1' : wa.cell? ⟨gd, 12 + i, none⟩ = some (.pointer (some ⟨gr, 0, none⟩)) := by rw [(h1.bk t0).cell]; exact hc1
  try simp only [Nat.zero_add] at d0'
  obtain ⟨e0, e2, e5⟩ := HOP.out wa (h1.bk tx)
  have i0 : (0 : Int) ≤ (i : Int) := by omega
  have i1 : (i : Int) < 2 := by omega
  have HWA := Lib.hid hwa
  have HOPE := Lib.hid hOP
  have HTX := Lib.hid hTx
  have H1 := Lib.hid h1
  have TA := Lib.hid ta
  have TB := Lib.hid tb
  have TX := Lib.hid tx
  have HLA : Hid (ja < Ts.length ∧ jb < Ts.length ∧ ja ≠ jb) := ⟨hla, hlb, hab⟩
  have HB0 := Lib.hid h1.fr.size
  have TBOX := Lib.hid (h1.box 94 #[.int .i64 n, .slice none 0 0, .slice none 0 0])
  obtain ⟨bt, hbt⟩ : ∃ bt, wa.heap.size = bt := ⟨_, rfl⟩
  obtain ⟨wt, hwt⟩ : ∃ wt, wt = wa.alloc (.cells #[.int .i64 n, .slice none 0 0, .slice none 0 0] 94) := ⟨_, rfl⟩
  have htl : Tx.length = Ts.length + 1 := by rw [← hTx]; simp
  have h3 : Sg w0 (Tx ++ [thTn w0.heap.size bt n (.slice none 0 0) []]) wt := by
    rw [hwt]
    refine h1.push ((Fr.refl _ _).alloc _) ⟨Bk.new_at _ _ _ _ hbt, Lst.nil _ _ _ _, by rw [← hbt]; exact h1.fr.size⟩ (fun x hx => ?_)
    have : x = bt := by simpa [thTn, skT, Value.ownBlock] using hx
    omega
  have hlax : ja < Tx.length := by omega
  have HMAP := Lib.hid (map_any (ja := ja) (jt := Tx.length) (bt := bt) (n := n) (vt := .slice none 0 0) h3 (by rw [List.getElem?_append_left hlax]; exact ta) (by rw [List.getElem?_append_right (Nat.le_refl _), Nat.sub_self]; rfl) (by omega) hL)
  obtain ⟨Lm, hLm⟩ : ∃ Lm, L.map (f3 n) = Lm := ⟨_, rfl⟩
  rw [hLm] at HMAP ⊢
  have HLM := Lib.hid hLm
  obtain ⟨m, hm⟩ : ∃ m, L.length = m := ⟨_, rfl⟩
  have HMM := Lib.hid hm
  -- behind Map
  have HAFT : Hid (∀ z, MapO w0 (Tx ++ [thTn w0.heap.size bt n (.slice none 0 0) []]) gs bt ja Tx.length most n L Lm z → ∃ (T : List (Th w0.heap.size)) (vq vt : Value), Sg w0 T z ∧ Chg (Tx ++ [thTn w0.heap.size bt n (.slice none 0 0) []]) T ja Tx.length ∧ T[ja]? = some (thSk 122 w0.heap.size gs most vq Lm) ∧ T[jb]? = some (thNb 77 3 w0.heap.size gr v2 most (iV L)) ∧ T[Ts.length]? = some (thBox w0.heap.size kb 31 OP) ∧ T[Tx.length]? = some (thTn w0.heap.size bt n vt L)) := fun z hz => by
    obtain ⟨T, vq, vt, z1, z2, z3, z4⟩ := hz
    refine ⟨T, vq, vt, z1, z2, z3, ?_, ?_, z4⟩
    · rw [z2.2 jb (by omega) (by omega), List.getElem?_append_left (by omega)]
      exact tb
    · rw [z2.2 Ts.length (by omega) (by omega), List.getElem?_append_left (by omega)]
      exact tx
  have hkb0 := hkb
  have HWT := Lib.hid hwt
  have HBT := Lib.hid hbt
  have HTL := Lib.hid htl
  clear h hd hc0 hc1 ha hb hla hlb hl0 hab h0a h0b h1 h3 ta tb t0 tx hOP hTx hwa hm hLm hwt hbt htl TBOX
  go_enter Tryz.func21, Tryz.ntmps21
  go_upto_region 1 with fail
  rw [HOPE.out, ← HWA.out]
  clear d0 d1
  go_upto_region 13 with fail
  rw [← HWT.out]
  try rw [HBT.out]
  clear e0 e2 e5 d0' d1'
  go_wp2_with fail
  refine (Calls.mono HMAP.out ?_)
  rintro en z ⟨rfl, ho⟩
  obtain ⟨T, vq, vt, z1, z2, z3, z4, z5, z6⟩ := HAFT.out z ho
  have hnb := z1.nb_at z4
  obtain ⟨A, cp, hv2, _, hcm⟩ := hnb.L.look
  rw [iV_length, HMM.out] at hv2
  have htn : Tn w0.heap.size z bt n vt L := z1.ok _ _ z6
  obtain ⟨At, ct, hvt, _, _⟩ := htn.L.look
  rw [HMM.out] at hvt
  have c1 : z.cell? ⟨bt, 1, none⟩ = some (.slice At m ct) := by rw [← hvt]; exact htn.B.cell 1
  have c0 : z.cell? ⟨gr, 0, none⟩ = some (.slice A m cp) := by rw [← hv2]; exact hnb.B.cell 0
  have HS1 : Hid (Calls Tryz.prog 37 #[.slice At m ct, .slice A m cp] z.drew fun e w' => e = .returned (.bool true) ∧ Fr [] z.drew w') := by
    have l1 := htn.L
    have l2 := hnb.L
    rw [HMM.out, hvt] at l1
    rw [iV_length, HMM.out, hv2] at l2
    exact same_yes At A L m ct cp z.drew HMM.out.symm ((l1.rdi HMM.out.symm).fr ((Fr.refl [] z).drew) (by simp)) ((l2.rdi HMM.out.symm).fr ((Fr.refl [] z).drew) (by simp))
  have HK : Hid (∀ Z, Fr [] z.drew Z → Z.cell? ⟨bt, 1, none⟩ = some (.slice At m ct) ∧ Z.cell? ⟨gr, 0, none⟩ = some (.slice A m cp)) := fun Z hf => by
    have z7 := (z1.nil ((Fr.refl [] z).drew)).nil hf
    have htn : Tn w0.heap.size Z bt n vt L := z7.ok _ _ z6
    exact ⟨by rw [← hvt]; exact htn.B.cell 1, by rw [← hv2]; exact (z7.nb_at z4).B.cell 0⟩
  have HZ : Hid (Sg w0 T z.drew ∧ Chg (Tx ++ [thTn w0.heap.size bt n (.slice none 0 0) []]) T ja Tx.length ∧ T[ja]? = some (thSk 122 w0.heap.size gs most vq Lm) ∧ T[jb]? = some (thNb 77 3 w0.heap.size gr v2 most (iV L)) ∧ T[Ts.length]? = some (thBox w0.heap.size kb 31 OP)) := ⟨z1.nil ((Fr.refl [] z).drew), z2, z3, z4, z5⟩
  have HV2 := Lib.hid hv2
  clear ho z1 z2 z3 z4 z5 z6 hnb hv2 htn hvt
  go_upto_region 14 with fail
  go_region_held3 (fun W => W.cell? ⟨bt, 1, none⟩ = some (.slice At m ct) ∧ W.cell? ⟨gr, 0, none⟩ = some (.slice A m cp)) ((first | exact HK.out _ (by assumption) | exact HK.out _ (Fr.refl _ _)))
    ((first | (go_at_call 37; refine (Calls.mono HS1.out ?_); rintro en y ⟨rfl, hfy⟩)))
  have HY : Hid (∃ T : List (Th w0.heap.size), Sg w0 T y ∧ Chg Tx T ja jb ∧ T[ja]? = some (thSk 122 w0.heap.size gs most vq Lm) ∧ T[jb]? = some (thNb 77 3 w0.heap.size gr (.slice A m cp) most (iV ((L.take 0).map (f3 n) ++ L.drop 0))) ∧ T[Ts.length]? = some (thBox w0.heap.size kb 31 OP)) := by
    obtain ⟨q1, q2, q3, q4, q5⟩ := HZ.out
    have hl1 := HLA.out
    have hl2 := HTL.out
    have ht1 : T.length = Tx.length + 1 := by rw [q2.1]; simp
    rw [HV2.out] at q4
    refine ⟨T.take Tx.length, (q1.nil hfy).take _, ⟨by rw [List.length_take]; omega, fun j h1 h2 => ?_⟩, ?_, ?_, ?_⟩
    · rw [List.getElem?_take]
      split
      · rw [q2.2 j h1 (by omega), List.getElem?_append_left (by assumption)]
      · rw [List.getElem?_eq_none (by omega)]
    · rw [List.getElem?_take, if_pos (by omega)]; exact q3
    · rw [List.getElem?_take, if_pos (by omega)]; simpa using q4
    · rw [List.getElem?_take, if_pos (by omega)]; exact q5
  clear hfy c0 c1 HMAP HAFT
  have hmb : m ≤ 100000 := by rw [← HMM.out]; exact hL
  go_wp2_with fail
  go_loopw [16] (fun j wr => ∃ k : Nat, k ≤ m ∧ j = .int .i64 k ∧ Hid (∃ T : List (Th w0.heap.size), Sg w0 T wr ∧ Chg Tx T ja jb ∧ T[ja]? = some (thSk 122 w0.heap.size gs most vq Lm) ∧ T[jb]? = some (thNb 77 3 w0.heap.size gr (.slice A m cp) most (iV ((L.take k).map (f3 n) ++ L.drop k))) ∧ T[Ts.length]? = some (thBox w0.heap.size kb 31 OP))) (fun j _ => m - (intOf j).toNat)
  case atStart => exact ⟨0, by omega, rfl, HY.out⟩
  case round =>
    obtain ⟨k, hk, rfl, hx⟩ := hrel
    obtain ⟨T', q1, q2, q3, q4, q5⟩ := hx.out
    clear hx
    have hnb := q1.nb_at q4
    have c0 : wr.cell? ⟨gr, 0, none⟩ = some (.slice A m cp) := hnb.B.cell 0
    by_cases hlk : k < m
    · obtain ⟨x, hxk⟩ : ∃ x, L[k]? = some x := ⟨_, List.getElem?_eq_getElem (by have := HMM.out; omega)⟩
      obtain ⟨st1, st2⟩ := map_step (f := f3 n) hxk
      have hlen : (iV ((L.take k).map (f3 n) ++ L.drop k)).length = m := by rw [iV_length]; simp; have := HMM.out; omega
      have hnL := hnb.L
      rw [hlen] at hnL
      obtain ⟨gl, off, cap, hq, _, hgl, _, _, _, hfz, hcl⟩ := hnL.form (by omega)
      injection hq with r1 _ r3
      subst r1 r3
      have cx := hcl k _ (iV_at st1)
      have fx := hfz (off + k)
      have cn := (HOP.out _ (q1.bk q5)).2.1
      have hp := hnL.put (j := k) (.int .i64 (f3 n x))
      have e1 : (iV ((L.take k).map (f3 n) ++ L.drop k)).set k (.int .i64 (f3 n x)) = iV ((L.take (k + 1)).map (f3 n) ++ L.drop (k + 1)) := by
        rw [← st2]
        unfold iV
        rw [List.map_set]
      have hlen2 : (iV ((L.take (k + 1)).map (f3 n) ++ L.drop (k + 1))).length = m := by rw [← e1, List.length_set]; exact hlen
      rw [e1] at hp
      have HX : Hid (∀ y, f3 n x = y → ∃ T : List (Th w0.heap.size), Sg w0 T (wr.setCell ⟨gl, off + k, none⟩ (.int .i64 y)) ∧ Chg Tx T ja jb ∧ T[ja]? = some (thSk 122 w0.heap.size gs most vq Lm) ∧ T[jb]? = some (thNb 77 3 w0.heap.size gr (.slice (some ⟨gl, off, none⟩) m cp) most (iV ((L.take (k + 1)).map (f3 n) ++ L.drop (k + 1)))) ∧ T[Ts.length]? = some (thBox w0.heap.size kb 31 OP)) := fun y hy => by
        subst hy
        have hla := HLA.out
        have htl := HTL.out
        refine ⟨_, q1.set (t' := thNb 77 3 w0.heap.size gr (.slice (some ⟨gl, off, none⟩) m cp) most (iV ((L.take (k + 1)).map (f3 n) ++ L.drop (k + 1)))) q4 ((Fr.refl _ _).setCell (.inl (by simp [thNb, skT, Value.ownBlock])) _) ⟨hnb.B.far (p := ⟨gl, off + k, none⟩) (fun e => (hnL.ne_bk hnb.B (by decide) gl (by simp [Value.ownBlock])) e.symm) _, by rw [hlen2]; exact hp, hnb.b⟩ (fun y hy => .inl hy), q2.set2 _, ?_, ?_, ?_⟩
        · rw [List.getElem?_set_ne (Ne.symm hla.2.2)]; exact q3
        · rw [List.getElem?_set_self (by rw [q2.1]; omega)]
        · rw [List.getElem?_set_ne (by omega)]; exact q5
      have i0 : (0 : Int) ≤ (k : Int) := by omega
      have i1 : (k : Int) < (m : Int) := by omega
      have i2 : decide ((k : Int) < (m : Int)) = true := decide_eq_true i1
      clear hxk st1 st2 hlen hnL hcl hfz hp e1 hlen2 hnb q1 q2 q3 q4 q5
      go_upto_region 18 with fail
      go_region
      all_goals
        go_wp2_with fail
        go_roundw
        case rel =>
          first
            | exact ⟨k + 1, by omega, by go_num, HX.out _ rfl⟩
            | exact ⟨k + 1, by omega, by go_num, HX.out _ (by unfold f3; simp only [wrapEq'])⟩
            | (obtain ⟨T, z1, z2, z3, z4, z5⟩ := HX.out _ rfl; exact ⟨k + 1, by omega, by go_num, T, z1.nil ((Fr.refl _ _).drew), z2, z3, z4, z5⟩)
            | (obtain ⟨T, z1, z2, z3, z4, z5⟩ := HX.out _ (by unfold f3; simp only [wrapEq']); exact ⟨k + 1, by omega, by go_num, T, z1.nil ((Fr.refl _ _).drew), z2, z3, z4, z5⟩)
        case measure => simp [intOf]; omega
    · obtain rfl : m = k := by omega
      have HX : Hid (DoN w0 Ts 122 (fun L => L) gs gr most ja jb Lm (.returned (.bool true)) wr) := by
        rw [List.take_of_length_le (by have := HMM.out; omega), List.drop_eq_nil_of_le (by have := HMM.out; omega), List.append_nil, HLM.out] at q4
        exact DoN.of (Us := [thBox w0.heap.size kb 31 OP]) q1 (by rw [HTX.out]; exact q2) HLA.out.1 HLA.out.2.1 q3 q4
      have i2 : decide ((m : Int) < (m : Int)) = false := decide_eq_false (by omega)
      clear hnb q1 q2 q3 q4 q5
      go_wp2_with fail
      go_ret
      exact HX.out
end Go.Proofs.YtdjaalkbpdmdgaaGreat
