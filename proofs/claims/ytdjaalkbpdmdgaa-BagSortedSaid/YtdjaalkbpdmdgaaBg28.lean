/-
  Bag: the statement BagFrozen.
-/
import Derived.Test.YtdjaalkbpdmdgaaBgW
import Derived.Test.YtdjaalkbpdmdgaaBg21
namespace Go.Proofs.Ytdjaalkbpdmdgaa
open Go.RowKit Go.Shelf
set_option linter.unusedVariables false

set_option maxRecDepth 100000 in
set_option maxHeartbeats 3200000 in
theorem frozen_any (A : Option Addr) (n c : Nat) (l : List Int) (more : Int) (w : World) (hn : n = l.length) (hnc : n ≤ c) (hc : c ≤ 9223372036854775807) (hr : RdI w A l) :
    Calls Try.prog 6 #[.slice A n c, .int .i64 more] w fun e w' => e = .returned (.bool true) ∧ Fr [] w w' := by
  obtain ⟨l0, hl0⟩ : ∃ l0, l.take 500 = l0 := ⟨_, rfl⟩
  obtain ⟨m, hm⟩ : ∃ m, l0.length = m := ⟨_, rfl⟩
  have hmn : m = min n 500 := by rw [← hm, ← hl0, List.length_take, hn]; omega
  have hm5 : m ≤ 500 := by omega
  have HR : Hid (0 < m → ∃ b o, A = some ⟨b, o, none⟩ ∧ b < w.heap.size ∧ ∀ i x, l0[i]? = some x → w.cell? ⟨b, o + i, none⟩ = some (.int .i64 x)) := by
    intro h0
    obtain ⟨b, o, e, hb, hcl⟩ := hr.2 (by omega)
    refine ⟨b, o, e, hb, fun i x hx => hcl i x ?_⟩
    rw [← hl0, List.getElem?_take] at hx
    split at hx
    · exact hx
    · cases hx
  have HM := Lib.hid hm
  clear hr hl0 hm hn
  go_enter Try.func6, Try.ntmps6
  go_wp2_with fail
  obtain ⟨z0, hz0⟩ : ∃ z0, z0 = w.alloc (.cells #[.int .i64 more] 3) := ⟨_, rfl⟩
  have HFW : Hid (Fr [] w z0) := by rw [hz0]; exact (Fr.refl _ _).alloc _
  have HZS : Hid (z0.heap.size = w.heap.size + 1) := by show z0.heap.size = _; rw [hz0]; simp
  have HBM : Hid (Bk z0 w.heap.size 3 #[.int .i64 more]) := by rw [hz0]; exact Bk.new _ _ _
  rw [← hz0]
  clear hz0
  refine (known_any z0).mono ?_
  rintro e w1 ⟨rfl, hf1⟩
  have HF0 := Lib.hid hf1
  clear hf1
  go_wp2_with fail
  refine (few_any A n c w1 hnc hc).mono ?_
  rintro e w2 ⟨⟨m', c', hm', rfl⟩, rfl⟩
  obtain rfl : m' = m := by omega
  clear hm' hmn hnc hc
  go_wp2_with fail
  obtain ⟨z1, hz1⟩ : ∃ z1, z1 = w1.alloc (.cells #[.slice A m' c'] 22) := ⟨_, rfl⟩
  have hfz1 : Fr [] w1 z1 := by rw [hz1]; exact (Fr.refl _ _).alloc _
  have HF1 := Lib.hid (HF0.out.trans hfz1 (by simp))
  have HBL1 : Hid (Bk z1 w1.heap.size 22 #[.slice A m' c']) := by rw [hz1]; exact Bk.new _ _ _
  obtain ⟨bl, hbl⟩ : ∃ bl, bl = w1.heap.size := ⟨_, rfl⟩
  rw [← hz1]
  rw [← hbl] at HBL1 ⊢
  clear hz1 hfz1 hbl
  clear HF0
  refine (stack_new z0.heap.size 0 z1 (by omega) HF1.out.size).mono ?_
  rintro e x2 ⟨gs, rfl, hc, hf, hg⟩
  have HF2 := Lib.hid (HF1.out.trans hf (by simp))
  have HBL2 := Lib.hid (HBL1.out.fr hf (by simp))
  have HS2 := Lib.hid hc
  clear hc hf hg
  clear HF1 HBL1
  go_wp2_with fail
  obtain ⟨z3, hz3⟩ : ∃ z3, z3 = x2.alloc (.cells #[.pointer (some ⟨gs, 0, none⟩)] 25) := ⟨_, rfl⟩
  have hfz3 : Fr [] x2 z3 := by rw [hz3]; exact (Fr.refl _ _).alloc _
  have HF3 := Lib.hid (HF2.out.trans hfz3 (by simp))
  have HBL3 := Lib.hid (HBL2.out.fr hfz3 (by simp))
  have HS3 := Lib.hid (HS2.out.fr hfz3 (by simp) (by simp))
  have HBS3 : Hid (Bk z3 x2.heap.size 25 #[.pointer (some ⟨gs, 0, none⟩)]) := by rw [hz3]; exact Bk.new _ _ _
  obtain ⟨bs, hbs⟩ : ∃ bs, bs = x2.heap.size := ⟨_, rfl⟩
  rw [← hz3]
  rw [← hbs] at HBS3 ⊢
  clear hz3 hfz3 hbs
  clear HF2 HBL2 HS2
  refine (queue_new z0.heap.size 0 z3 (by omega) HF3.out.size).mono ?_
  rintro e x4 ⟨gq, rfl, hc, hf, hg⟩
  have HF4 := Lib.hid (HF3.out.trans hf (by simp))
  have HBL4 := Lib.hid (HBL3.out.fr hf (by simp))
  have HS4 := Lib.hid (HS3.out.fr hf (by simp) (by simp))
  have HBS4 := Lib.hid (HBS3.out.fr hf (by simp))
  have HQ4 := Lib.hid hc
  have hltSQ : gs < gq := Nat.lt_of_lt_of_le HS3.out.B.lt hg
  clear hc hf hg
  clear HF3 HBL3 HS3 HBS3
  go_wp2_with fail
  obtain ⟨z5, hz5⟩ : ∃ z5, z5 = x4.alloc (.cells #[.pointer (some ⟨gq, 0, none⟩)] 29) := ⟨_, rfl⟩
  have hfz5 : Fr [] x4 z5 := by rw [hz5]; exact (Fr.refl _ _).alloc _
  have HF5 := Lib.hid (HF4.out.trans hfz5 (by simp))
  have HBL5 := Lib.hid (HBL4.out.fr hfz5 (by simp))
  have HS5 := Lib.hid (HS4.out.fr hfz5 (by simp) (by simp))
  have HBS5 := Lib.hid (HBS4.out.fr hfz5 (by simp))
  have HQ5 := Lib.hid (HQ4.out.fr hfz5 (by simp) (by simp))
  have HBQ5 : Hid (Bk z5 x4.heap.size 29 #[.pointer (some ⟨gq, 0, none⟩)]) := by rw [hz5]; exact Bk.new _ _ _
  obtain ⟨bq, hbq⟩ : ∃ bq, bq = x4.heap.size := ⟨_, rfl⟩
  rw [← hz5]
  rw [← hbq] at HBQ5 ⊢
  clear hz5 hfz5 hbq
  clear HF4 HBL4 HS4 HBS4 HQ4
  refine (tbN_new z0.heap.size z5 HF5.out.size).mono ?_
  rintro e x6 ⟨gt, rfl, hc, hf, hg⟩
  have HF6 := Lib.hid (HF5.out.trans hf (by simp))
  have HBL6 := Lib.hid (HBL5.out.fr hf (by simp))
  have HS6 := Lib.hid (HS5.out.fr hf (by simp) (by simp))
  have HBS6 := Lib.hid (HBS5.out.fr hf (by simp))
  have HQ6 := Lib.hid (HQ5.out.fr hf (by simp) (by simp))
  have HBQ6 := Lib.hid (HBQ5.out.fr hf (by simp))
  have HT6 := Lib.hid hc
  have hltST : gs < gt := Nat.lt_of_lt_of_le HS5.out.B.lt hg
  have hltQT : gq < gt := Nat.lt_of_lt_of_le HQ5.out.B.lt hg
  clear hc hf hg
  clear HF5 HBL5 HS5 HBS5 HQ5 HBQ5
  go_upto_region 7 with fail
  obtain ⟨z7, hz7⟩ : ∃ z7, z7 = x6.alloc (.cells #[.pointer (some ⟨gt, 0, none⟩)] 38) := ⟨_, rfl⟩
  have hfz7 : Fr [] x6 z7 := by rw [hz7]; exact (Fr.refl _ _).alloc _
  have HF7 := Lib.hid (HF6.out.trans hfz7 (by simp))
  have HBL7 := Lib.hid (HBL6.out.fr hfz7 (by simp))
  have HS7 := Lib.hid (HS6.out.fr hfz7 (by simp) (by simp))
  have HBS7 := Lib.hid (HBS6.out.fr hfz7 (by simp))
  have HQ7 := Lib.hid (HQ6.out.fr hfz7 (by simp) (by simp))
  have HBQ7 := Lib.hid (HBQ6.out.fr hfz7 (by simp))
  have HT7 := Lib.hid (HT6.out.fr hfz7 (by simp) (by simp))
  have HBT7 : Hid (Bk z7 x6.heap.size 38 #[.pointer (some ⟨gt, 0, none⟩)]) := by rw [hz7]; exact Bk.new _ _ _
  obtain ⟨bt, hbt⟩ : ∃ bt, bt = x6.heap.size := ⟨_, rfl⟩
  rw [← hz7]
  rw [← hbt] at HBT7 ⊢
  clear hz7 hfz7 hbt
  clear HF6 HBL6 HS6 HBS6 HQ6 HBQ6 HT6
  have c_BS := HBS7.out.cell 0
  have c_BQ := HBQ7.out.cell 0
  have c_BT := HBT7.out.cell 0
  go_upto_region 9 with fail
  clear c_BS c_BQ c_BT
  have c_BS := HBS7.out.cell 0
  go_wp2_with fail
  refine (stack_all gs z7).mono ?_
  rintro e x8 ⟨rfl, hw⟩
  have hf : Fr [] z7 x8 := by rw [hw]; exact (Fr.refl _ _).alloc _
  have HF8 := Lib.hid (HF7.out.trans hf (by simp))
  have HBL8 := Lib.hid (HBL7.out.fr hf (by simp))
  have HS8 := Lib.hid (HS7.out.fr hf (by simp) (by simp))
  have HBS8 := Lib.hid (HBS7.out.fr hf (by simp))
  have HQ8 := Lib.hid (HQ7.out.fr hf (by simp) (by simp))
  have HBQ8 := Lib.hid (HBQ7.out.fr hf (by simp))
  have HT8 := Lib.hid (HT7.out.fr hf (by simp) (by simp))
  have HBT8 := Lib.hid (HBT7.out.fr hf (by simp))
  have HXS8 : Hid (Bk x8 z7.heap.size 25 #[.pointer (some ⟨gs, 0, none⟩)]) := by rw [hw]; exact Bk.new _ _ _
  obtain ⟨xs, hxs⟩ : ∃ xs, xs = z7.heap.size := ⟨_, rfl⟩
  rw [← hxs] at HXS8 ⊢
  clear hw hf hxs c_BS
  clear HF7 HBL7 HS7 HBS7 HQ7 HBQ7 HT7 HBT7
  have c_BQ := HBQ8.out.cell 0
  go_wp2_with fail
  refine (queue_all gq x8).mono ?_
  rintro e x9 ⟨rfl, hw⟩
  have hf : Fr [] x8 x9 := by rw [hw]; exact (Fr.refl _ _).alloc _
  have HF9 := Lib.hid (HF8.out.trans hf (by simp))
  have HBL9 := Lib.hid (HBL8.out.fr hf (by simp))
  have HS9 := Lib.hid (HS8.out.fr hf (by simp) (by simp))
  have HBS9 := Lib.hid (HBS8.out.fr hf (by simp))
  have HQ9 := Lib.hid (HQ8.out.fr hf (by simp) (by simp))
  have HBQ9 := Lib.hid (HBQ8.out.fr hf (by simp))
  have HT9 := Lib.hid (HT8.out.fr hf (by simp) (by simp))
  have HBT9 := Lib.hid (HBT8.out.fr hf (by simp))
  have HXS9 := Lib.hid (HXS8.out.fr hf (by simp))
  have HXQ9 : Hid (Bk x9 x8.heap.size 29 #[.pointer (some ⟨gq, 0, none⟩)]) := by rw [hw]; exact Bk.new _ _ _
  obtain ⟨xq, hxq⟩ : ∃ xq, xq = x8.heap.size := ⟨_, rfl⟩
  rw [← hxq] at HXQ9 ⊢
  clear hw hf hxq c_BQ
  clear HF8 HBL8 HS8 HBS8 HQ8 HBQ8 HT8 HBT8 HXS8
  have c_BT := HBT9.out.cell 0
  go_wp2_with fail
  refine (table_all gt x9).mono ?_
  rintro e x10 ⟨rfl, hw⟩
  have hf : Fr [] x9 x10 := by rw [hw]; exact (Fr.refl _ _).alloc _
  have HF10 := Lib.hid (HF9.out.trans hf (by simp))
  have HBL10 := Lib.hid (HBL9.out.fr hf (by simp))
  have HS10 := Lib.hid (HS9.out.fr hf (by simp) (by simp))
  have HBS10 := Lib.hid (HBS9.out.fr hf (by simp))
  have HQ10 := Lib.hid (HQ9.out.fr hf (by simp) (by simp))
  have HBQ10 := Lib.hid (HBQ9.out.fr hf (by simp))
  have HT10 := Lib.hid (HT9.out.fr hf (by simp) (by simp))
  have HBT10 := Lib.hid (HBT9.out.fr hf (by simp))
  have HXS10 := Lib.hid (HXS9.out.fr hf (by simp))
  have HXQ10 := Lib.hid (HXQ9.out.fr hf (by simp))
  have HXT10 : Hid (Bk x10 x9.heap.size 38 #[.pointer (some ⟨gt, 0, none⟩)]) := by rw [hw]; exact Bk.new _ _ _
  obtain ⟨xt, hxt⟩ : ∃ xt, xt = x9.heap.size := ⟨_, rfl⟩
  rw [← hxt] at HXT10 ⊢
  clear hw hf hxt c_BT
  clear HF9 HBL9 HS9 HBS9 HQ9 HBQ9 HT9 HBT9 HXS9 HXQ9
  have HZ : Hid (Fz z0 bl bs bq bt xs xq xt gs gq gt A m' c' [] [] [] x10) := by
    refine ⟨⟨_, _, _, HQ10.out, HS10.out, HT10.out, fun x hx => ?_, fun x hx ht => ?_, HF10.out⟩, ⟨HBL10.out, HBS10.out, HBQ10.out, HBT10.out, HXS10.out, HXQ10.out, HXT10.out⟩⟩
    · simp only [skT, Value.ownBlock, Option.toList, List.mem_cons, List.not_mem_nil, or_false] at hx ⊢
      omega
    · simp only [skT, Value.ownBlock, Option.toList, List.mem_cons, List.not_mem_nil, or_false] at hx ht
      omega
  clear HF10 HBL10 HS10 HBS10 HQ10 HBQ10 HT10 HBT10 HXS10 HXQ10 HXT10 hltSQ hltST hltQT
  have n1 := eql_nilF 53 ⟨_, _, _, Try.underlying53⟩ (.func 54) #[] #[.pointer (some ⟨xs, 0, none⟩)]
  have n2 := eql_nilF 53 ⟨_, _, _, Try.underlying53⟩ (.func 50) #[] #[.pointer (some ⟨xq, 0, none⟩)]
  have n3 := eql_nilF 44 ⟨_, _, _, Try.underlying44⟩ (.func 42) #[] #[.pointer (some ⟨xt, 0, none⟩)]
  obtain ⟨y0, hy0⟩ : ∃ y0, y0 = x10 := ⟨_, rfl⟩
  rw [← hy0] at HZ ⊢
  clear hy0
  have n1 := n1 y0
  have n2 := n2 y0
  have n3 := n3 y0
  go_upto_region 15 with fail
  go_loopw [14] (fun i wr => ∃ k : Nat, k ≤ m' ∧ i = .int .i64 k ∧ Hid (Fz z0 bl bs bq bt xs xq xt gs gq gt A m' c' (l0.take k) (l0.take k) (rowsN 7 k) wr)) (fun i _ => m' - (intOf i).toNat)
  case atStart => exact ⟨0, by omega, rfl, (by show Fz z0 bl bs bq bt xs xq xt gs gq gt A m' c' (l0.take 0) (l0.take 0) (rowsN 7 0) y0; simpa [rowsN] using HZ.out)⟩
  case round =>
    obtain ⟨k, hk, rfl, hx⟩ := hrel
    have c_l := hx.out.box.L.cell 0
    by_cases hlt : k < m'
    · obtain ⟨b, o, rfl, hbl, hcl⟩ := HR.out (by omega)
      obtain ⟨x, hlx⟩ : ∃ x, l0[k]? = some x := ⟨_, List.getElem?_eq_getElem (by have := HM.out; omega)⟩
      have hcx := hcl k x hlx
      have i0 : (0 : Int) ≤ (k : Int) := by omega
      have i1 : (k : Int) < (m' : Int) := by omega
      have htk : l0.take (k + 1) = l0.take k ++ [x] := by
        obtain ⟨h1, h2⟩ := List.getElem?_eq_some_iff.1 hlx
        rw [List.take_succ_eq_append_getElem h1, h2]
      have hlk : (l0.take k).length = k := by rw [List.length_take, HM.out]; omega
      have HTK := Lib.hid (And.intro htk hlk)
      have HCX := Lib.hid hcx
      have HBL := Lib.hid hbl
      clear hcl hlx htk hlk hcx hbl
      go_upto_region 17 with fail
      obtain ⟨z, hz⟩ : ∃ z, z = wr.drew := ⟨_, rfl⟩
      have HFz : Hid (Fz z0 bl bs bq bt xs xq xt gs gq gt (some ⟨b, o, none⟩) m' c' (l0.take k) (l0.take k) (rowsN 7 k) z) := by rw [hz]; exact hx.out.drew
      have d1 := HFz.out.box.S.cell 0
      have d2 := HFz.out.box.L.cell 0
      have d3 : z.cell? ⟨b, o + k, none⟩ = some (.int .i64 x) := (World.cell?_of_block ((HFW.out.trans HFz.out.fr (by simp)).block b HBL.out (by simp))).trans HCX.out
      have HZ1 := Lib.hid hz
      clear hz c_l
      refine wp_region_still_tail 5 (by kernel_rfl) (by kernel_rfl) ?_
      change wpStill _ _ wr.drew _ _ _
      rw [← HZ1.out]
      simp only [List.take_succ_cons, List.take_zero, List.drop_succ_cons, List.drop_zero]
      repeat still_step
      refine wpStill_nil ?_
      change wpList _ _ _ _ _ wr.drew
      rw [← HZ1.out]
      go_wp2_with fail
      refine (HFz.out.push x (by rw [HTK.out.2]; omega)).mono ?_
      rintro e w5 ⟨rfl, h5⟩
      have H5 := Lib.hid h5
      clear h5 d1 d2 d3
      go_upto_region 18 with fail
      obtain ⟨z5, hz⟩ : ∃ z5, z5 = w5.drew := ⟨_, rfl⟩
      have HG : Hid (Fz z0 bl bs bq bt xs xq xt gs gq gt (some ⟨b, o, none⟩) m' c' (l0.take k) (l0.take k ++ [x]) (rowsN 7 k) z5) := by rw [hz]; exact H5.out.drew
      have d1 := HG.out.box.Q.cell 0
      have d2 := HG.out.box.L.cell 0
      have d3 : z5.cell? ⟨b, o + k, none⟩ = some (.int .i64 x) := (World.cell?_of_block ((HFW.out.trans HG.out.fr (by simp)).block b HBL.out (by simp))).trans HCX.out
      have HZ5 := Lib.hid hz
      clear hz H5
      refine wp_region_still_tail 5 (by kernel_rfl) (by kernel_rfl) ?_
      change wpStill _ _ w5.drew _ _ _
      rw [← HZ5.out]
      simp only [List.take_succ_cons, List.take_zero, List.drop_succ_cons, List.drop_zero]
      repeat still_step
      refine wpStill_nil ?_
      change wpList _ _ _ _ _ w5.drew
      rw [← HZ5.out]
      go_wp2_with fail
      refine (HG.out.put x (by rw [HTK.out.2]; omega)).mono ?_
      rintro e w6 ⟨rfl, h6⟩
      have H6 := Lib.hid h6
      clear h6 d1 d2 d3 HG HFz
      have d1 := H6.out.box.T.cell 0
      have hu : IntKind.u64.wrap (k : Int) = (k : Int) := by rw [IntKind.wrap_u64]; omega
      have hu7 : IntKind.u64.wrap ((k : Int) + 7) = ((k : Int) + 7) := by rw [IntKind.wrap_u64]; omega
      go_wp2_with fail
      refine (H6.out.set k (by omega)).mono ?_
      rintro e w7 ⟨rfl, h7⟩
      have H7 := Lib.hid h7
      clear h7 d1
      go_wp2_with fail
      go_roundw
      case rel => exact ⟨k + 1, by omega, by go_num, by show Fz z0 bl bs bq bt xs xq xt gs gq gt (some ⟨b, o, none⟩) m' c' (l0.take (k + 1)) (l0.take (k + 1)) (rowsN 7 (k + 1)) w7; rw [HTK.out.1]; exact H7.out⟩
      case measure => simp [intOf]; omega
    · obtain rfl : k = m' := by omega
      have hall : l0.take k = l0 := List.take_of_length_le (by rw [HM.out]; exact Nat.le_refl _)
      have hx := hx.out
      rw [hall] at hx
      have HX := Lib.hid hx
      clear hx hall hlt hk HZ
      go_upto_region 22 with fail
      obtain ⟨z, hz⟩ : ∃ z, z = (wr.alloc (.cells #[.int .i64 0] 3)).alloc (.cells #[.bool true] 4) := ⟨_, rfl⟩
      obtain ⟨bn, hbn⟩ : ∃ bn, bn = wr.heap.size := ⟨_, rfl⟩
      have hf : Fr [] wr z := by rw [hz]; exact ((Fr.refl [] wr).alloc _).alloc _
      have ZN : Hid (Bk z bn 3 #[.int .i64 0]) := by rw [hz, hbn]; exact (Bk.new _ _ _).alloc _
      have ZO : Hid (Bk z (bn + 1) 4 #[.bool true]) := by rw [hz, hbn]; exact Bk.new_at _ _ _ _ (by simp)
      have HFR := Lib.hid hf
      have HBN := Lib.hid hbn
      have HRR : Hid (RdI z0 A l0) := RdI.fr (w := w) ⟨by have := HM.out; omega, fun h0 => HR.out (by have := HM.out; omega)⟩ HFW.out (by simp)
      have HAL : Hid (∀ a, A = some a → l0 ≠ [] → a.block < z0.heap.size) := fun a ha h0 => by
        obtain ⟨b, o, e, hb, _⟩ := HR.out (by have := HM.out; have := List.length_pos_iff.2 h0; omega)
        rw [e] at ha
        injection ha with ha
        subst ha
        have := HZS.out
        show b < z0.heap.size
        omega
      obtain rfl := HM.out
      rw [← hz]
      rw [← hbn]
      clear hz hf hbn HM c_l
      go_wp2_with fail
      refine (walkS (bm := w.heap.size) (more := more) HX.out HFR.out ZO.out ZN.out (by have := HBN.out; omega) (by have := HBN.out; omega) HBM.out HRR.out HAL.out hm5).mono ?_
      rintro e w2 ⟨rfl, o1, n1, g1, b1⟩
      rw [← HBN.out] at g1
      have HO := Lib.hid o1
      have HN := Lib.hid n1
      have HG := Lib.hid g1
      have HB := Lib.hid b1
      have c1 := o1.cell 0
      have c2 := n1.cell 0
      have c3 := b1.L.cell 0
      have fn := n1.free 0
      have hnb : bn ≠ bn + 1 := by omega
      have hnb2 : bn + 1 ≠ bn := by omega
      have HSZ : Hid (z0.heap.size ≤ bn) := by show z0.heap.size ≤ bn; rw [HBN.out]; exact HX.out.fr.size
      clear o1 n1 g1 b1 ZN ZO HX
      go_upto_region 26 with fail
      obtain ⟨z2, hz2⟩ : ∃ z2, z2 = w2.setCell ⟨bn, 0, none⟩ (.int .i64 0) := ⟨_, rfl⟩
      have hf2 : Fr [bn] w2 z2 := by rw [hz2]; exact (Fr.refl _ _).setCell (by simp) _
      have YO : Hid (Bk z2 (bn + 1) 4 #[.bool true]) := HO.out.fr hf2 (by simp)
      have YN : Hid (Bk z2 bn 3 #[.int .i64 0]) := by rw [hz2]; exact HN.out.put 0 (.int .i64 0)
      have YG := Lib.hid (HG.out.fr hf2 (by simp) HSZ.out)
      have YB := Lib.hid (HB.out.fr hf2 ((OfC.nil w2).cons HN.out (by decide)))
      rw [← hz2]
      clear hz2 hf2 HO HN HG HB c1 c2 c3 fn
      go_wp2_with fail
      refine (walkQ (bm := w.heap.size) (more := more) YG.out YB.out YO.out YN.out (by omega) (Nat.le_refl _) HSZ.out HBM.out HRR.out hm5).mono ?_
      rintro e w3 ⟨rfl, o1, n1, ⟨vt, t1, t2⟩, f1, b1⟩
      have HO := Lib.hid o1
      have HN := Lib.hid n1
      have HT := Lib.hid t1
      have HTL := Lib.hid t2
      have HF := Lib.hid f1
      have HB := Lib.hid b1
      have c1 := o1.cell 0
      have c2 := n1.cell 0
      have c3 := b1.L.cell 0
      have fn := n1.free 0
      clear o1 n1 t1 t2 f1 b1 YO YN YG YB
      go_upto_region 30 with fail
      obtain ⟨z3, hz3⟩ : ∃ z3, z3 = w3.setCell ⟨bn, 0, none⟩ (.int .i64 0) := ⟨_, rfl⟩
      have hf3 : Fr [bn] w3 z3 := by rw [hz3]; exact (Fr.refl _ _).setCell (by simp) _
      have YO : Hid (Bk z3 (bn + 1) 4 #[.bool true]) := HO.out.fr hf3 (by simp)
      have YN : Hid (Bk z3 bn 3 #[.int .i64 0]) := by rw [hz3]; exact HN.out.put 0 (.int .i64 0)
      have hoff : ∀ x ∈ skT gt vt, x ∉ [bn] := fun x hx h => by have := HTL.out x hx; simp at h; omega
      obtain ⟨p1, p2⟩ := sk_off hoff
      have YT := Lib.hid (HT.out.fr hf3 p1 p2)
      have YF : Hid (Fr [] z0 z3) := HF.out.trans hf3 (fun x hx => .inr (by simp at hx; rw [hx]; exact HSZ.out))
      have YB := Lib.hid (HB.out.fr hf3 ((OfC.nil w3).cons HN.out (by decide)))
      rw [← hz3]
      clear hz3 hf3 hoff p1 p2 HO HN HT HF HB c1 c2 c3 fn
      go_wp2_with fail
      refine (walkT YT.out HTL.out YB.out YO.out YN.out (by omega) (Nat.le_refl _) HSZ.out YF.out hm5).mono ?_
      rintro e w4 ⟨rfl, o1, n1, f1, b1⟩
      have HF : Hid (Fr [] w w4) := HFW.out.trans f1 (by simp)
      have c1 := o1.cell 0
      have c2 := n1.cell 0
      have c3 := b1.L.cell 0
      clear o1 n1 f1 b1 YO YN YT YF YB
      go_wp2_with fail
      go_ret
      exact ⟨rfl, HF.out⟩
end Go.Proofs.Ytdjaalkbpdmdgaa
