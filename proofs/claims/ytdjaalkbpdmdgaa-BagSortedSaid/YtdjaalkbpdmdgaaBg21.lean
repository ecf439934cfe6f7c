/-
  Bag: the statement BagWithin.
-/
import Derived.Test.YtdjaalkbpdmdgaaBg20
namespace Go.Proofs.Ytdjaalkbpdmdgaa
open Go.RowKit
set_option linter.unusedVariables false

set_option maxRecDepth 100000 in
set_option maxHeartbeats 3200000 in
theorem within_any (A : Option Addr) (n c : Nat) (l : List Int) (w : World) (hn : n = l.length) (hnc : n ≤ c) (hc : c ≤ 9223372036854775807) (hr : RdI w A l) :
    Calls Try.prog 5 #[.slice A n c] w fun e w' => e = .returned (.bool true) ∧ Fr [] w w' := by
  obtain ⟨l0, hl0⟩ : ∃ l0, l.take 500 = l0 := ⟨_, rfl⟩
  obtain ⟨m, hm⟩ : ∃ m, l0.length = m := ⟨_, rfl⟩
  have hmn : m = min n 500 := by rw [← hm, ← hl0, List.length_take, hn]; omega
  have hm5 : m ≤ 500 := by omega
  have HR : Hid (0 < m → ∃ b o, A = some ⟨b, o, none⟩ ∧ b < w.heap.size ∧ ∀ i x, l0[i]? = some x → w.cell? ⟨b, o + i, none⟩ = some (.int .i64 x)) := by
    intro h0
    obtain ⟨b, o, e, hb, hcl⟩ := hr.2 (by omega)
    refine ⟨b, o, e, hb, fun i x hx => hcl i x ?_⟩
    rw [← hl0, List.getElem?_take] at hx
    split at hx
    · exact hx
    · cases hx
  have HM := Lib.hid hm
  clear hr hl0 hm hn
  go_enter Try.func5, Try.ntmps5
  go_wp2_with fail
  refine (known_any w).mono ?_
  rintro e w1 ⟨rfl, hf1⟩
  have HF1 := Lib.hid hf1
  clear hf1
  go_wp2_with fail
  refine (few_any A n c w1 hnc hc).mono ?_
  rintro e w2 ⟨⟨m', c', hm', rfl⟩, rfl⟩
  obtain rfl : m' = m := by omega
  clear hm' hmn hnc hc
  go_wp2_with fail
  refine (queue_new w.heap.size 0 w1 (by omega) HF1.out.size).mono ?_
  rintro e w2 ⟨gq, rfl, hQ, hf2, hgq⟩
  have HQ2 := Lib.hid hQ
  have HF2 := Lib.hid (HF1.out.trans hf2 (by simp))
  clear hQ hf2 HF1
  go_wp2_with fail
  refine (stack_new w.heap.size 0 w2 (by omega) HF2.out.size).mono ?_
  rintro e w3 ⟨gs, rfl, hS, hf3, hgs⟩
  have HS3 := Lib.hid hS
  have HQ3 := Lib.hid (HQ2.out.fr hf3 (by simp) (by simp))
  have HF3 := Lib.hid (HF2.out.trans hf3 (by simp))
  have hlq := HQ2.out.B.lt
  have hs3 := hf3.size
  clear hS hf3 HF2 HQ2
  go_wp2_with fail
  refine (tbN_new w.heap.size w3 HF3.out.size).mono ?_
  rintro e w4 ⟨gt, rfl, hT, hf4, hgt⟩
  have hls := HS3.out.B.lt
  have HT : Hid (Three w gq gs gt [] [] [] w4) := by
    refine ⟨_, _, _, HQ3.out.fr hf4 (by simp) (by simp), HS3.out.fr hf4 (by simp) (by simp), hT, fun x hx => ?_, fun x hx ht => ?_, HF3.out.trans hf4 (by simp)⟩
    · simp only [skT, Value.ownBlock, Option.toList, List.mem_cons, List.not_mem_nil, or_false] at hx ⊢
      omega
    · simp only [skT, Value.ownBlock, Option.toList, List.mem_cons, List.not_mem_nil, or_false] at hx ht
      omega
  clear hT hf4 hgt hgs hgq hls hlq hs3 HS3 HQ3 HF3
  go_upto_region 10 with fail
  go_loopw [9] (fun i wr => ∃ k : Nat, k ≤ m' ∧ i = .int .i64 k ∧ Hid (Three w gq gs gt (l0.take k) (l0.reverse.take k) (rowsN 3 k) wr)) (fun i _ => m' - (intOf i).toNat)
  case atStart => exact ⟨0, by omega, rfl, (by show Three w gq gs gt (l0.take 0) (l0.reverse.take 0) (rowsN 3 0) w4; simpa [rowsN] using HT.out)⟩
  case round =>
    obtain ⟨k, hk, rfl, hx⟩ := hrel
    by_cases hlt : k < m'
    · obtain ⟨vq, vs, vt, a1, a2, a3, a4, a5, a6⟩ := hx.out
      have HA1 := Lib.hid a1
      have HA2 := Lib.hid a2
      have HA3 := Lib.hid a3
      have HA4 := Lib.hid a4
      have HA5 := Lib.hid a5
      have HA6 := Lib.hid a6
      clear a1 a2 a3 a4 a5 a6 hx
      obtain ⟨b, o, rfl, hbl, hcl⟩ := HR.out (by omega)
      obtain ⟨q, hq⟩ : ∃ q, m' - 1 - k = q := ⟨_, rfl⟩
      obtain ⟨x, hx⟩ : ∃ x, l0[k]? = some x := ⟨_, List.getElem?_eq_getElem (by have := HM.out; omega)⟩
      obtain ⟨y, hy⟩ : ∃ y, l0[q]? = some y := ⟨_, List.getElem?_eq_getElem (by have := HM.out; omega)⟩
      have hcx := hcl k x hx
      have hcy := hcl q y hy
      have c1 : wr.cell? ⟨b, o + k, none⟩ = some (.int .i64 x) := (World.cell?_of_block (HA6.out.block b hbl (by simp))).trans hcx
      have i0 : (0 : Int) ≤ (k : Int) := by omega
      have i1 : (k : Int) < (m' : Int) := by omega
      have j0 : (0 : Int) ≤ (q : Int) := by omega
      have j1 : (q : Int) < (m' : Int) := by omega
      have e1 : (m' : Int) - 1 - (k : Int) = (q : Int) := by omega
      have htk : l0.take (k + 1) = l0.take k ++ [x] := by
        obtain ⟨h1, h2⟩ := List.getElem?_eq_some_iff.1 hx
        rw [List.take_succ_eq_append_getElem h1, h2]
      have hrv : l0.reverse[k]? = some y := by
        rw [List.getElem?_reverse (by have := HM.out; omega), show l0.length - 1 - k = q by have := HM.out; omega]
        exact hy
      have hrk : l0.reverse.take (k + 1) = l0.reverse.take k ++ [y] := by
        obtain ⟨h1, h2⟩ := List.getElem?_eq_some_iff.1 hrv
        rw [List.take_succ_eq_append_getElem h1, h2]
      have hlk : (l0.take k).length = k := by rw [List.length_take, HM.out]; omega
      have hlr : (l0.reverse.take k).length = k := by rw [List.length_take, List.length_reverse, HM.out]; omega
      have HTK := Lib.hid (And.intro htk hlk)
      have HRK := Lib.hid (And.intro hrk hlr)
      have HCY := Lib.hid hcy
      have HBL := Lib.hid hbl
      clear hcl hx hy htk hlk hcx hcy hrv hrk hlr hbl hq
      go_wp2_with fail
      refine (queue_add w.heap.size gq 0 vq (l0.take k) x wr HA1.out (by unfold fullB; simp) (by rw [HTK.out.2]; omega) HA6.out.size (by decide)).mono ?_
      intro e w5 hto
      obtain ⟨rfl, hT5⟩ := Three.q HA1.out HA2.out HA3.out HA4.out HA5.out HA6.out hto
      obtain ⟨vq5, vs5, vt5, a1, a2, a3, a4, a5, a6⟩ := hT5
      have HB1 := Lib.hid a1
      have HB2 := Lib.hid a2
      have HB3 := Lib.hid a3
      have HB4 := Lib.hid a4
      have HB5 := Lib.hid a5
      have HB6 := Lib.hid a6
      have c2 : w5.cell? ⟨b, o + q, none⟩ = some (.int .i64 y) := (World.cell?_of_block (HB6.out.block b HBL.out (by simp))).trans HCY.out
      clear a1 a2 a3 a4 a5 a6 c1 hto
      go_wp2_with fail
      refine (stack_add w.heap.size gs 0 vs5 (l0.reverse.take k) y w5 HB2.out (by unfold fullB; simp) (by rw [HRK.out.2]; omega) HB6.out.size (by decide)).mono ?_
      intro e w6 hto
      obtain ⟨rfl, hT6⟩ := Three.s HB1.out HB2.out HB3.out HB4.out HB5.out HB6.out hto
      obtain ⟨vq6, vs6, vt6, a1, a2, a3, a4, a5, a6⟩ := hT6
      have HC1 := Lib.hid a1
      have HC2 := Lib.hid a2
      have HC3 := Lib.hid a3
      have HC4 := Lib.hid a4
      have HC5 := Lib.hid a5
      have HC6 := Lib.hid a6
      have hu : IntKind.u64.wrap (k : Int) = (k : Int) := by rw [IntKind.wrap_u64]; omega
      have hu3 : IntKind.u64.wrap ((k : Int) + 3) = ((k : Int) + 3) := by rw [IntKind.wrap_u64]; omega
      have hset := setN_any w.heap.size gt vt6 (rowsN 3 k) ((k : Nat) : Int) ((k + 3 : Nat) : Int) w6 a3 (by rw [rowsN_length]; omega) a6.size
      rw [rowsN_set] at hset
      unfold kN vN at hset
      have HSET := Lib.hid hset
      clear a1 a2 a3 a4 a5 a6 c2 hto hset
      go_wp2_with fail
      refine (Calls.mono HSET.out ?_)
      intro e w7 hto
      obtain ⟨rfl, hT7⟩ := Three.t HC1.out HC2.out HC3.out HC4.out HC5.out HC6.out hto
      have HT7 := Lib.hid hT7
      clear hto hT7 HSET
      go_wp2_with fail
      go_roundw
      case rel => exact ⟨k + 1, by omega, by go_num, by show Three w gq gs gt (l0.take (k + 1)) (l0.reverse.take (k + 1)) (rowsN 3 (k + 1)) w7; rw [HTK.out.1, HRK.out.1]; exact HT7.out⟩
      case measure => simp [intOf]; omega
    · obtain rfl : k = m' := by omega
      have hall : l0.take k = l0 := List.take_of_length_le (by rw [HM.out]; exact Nat.le_refl _)
      have hallr : l0.reverse.take k = l0.reverse := List.take_of_length_le (by rw [List.length_reverse, HM.out]; exact Nat.le_refl _)
      have hx := hx.out
      rw [hall, hallr] at hx
      obtain ⟨vq, vs, vt, a1, a2, a3, a4, a5, a6⟩ := hx
      have HA1 := Lib.hid a1
      have HA2 := Lib.hid a2
      have HA3 := Lib.hid a3
      have HA6 := Lib.hid a6
      have HRR : Hid (RdI w A l0) := ⟨by have := HM.out; omega, fun h0 => HR.out (by have := HM.out; omega)⟩
      have HAL : Hid (∀ a, A = some a → l0 ≠ [] → a.block < w.heap.size) := fun a ha h0 => by
        obtain ⟨b, o, e, hb, _⟩ := HR.out (by have := HM.out; have := List.length_pos_iff.2 h0; omega)
        rw [e] at ha
        injection ha with ha
        subst ha
        exact hb
      clear a1 a2 a3 a4 a5 a6 hx hall hallr hk hlt HT
      go_wp2_with fail
      refine (queue_all gq wr).mono ?_
      rintro e w5 ⟨rfl, hw5⟩
      have hf5 : Fr [] wr w5 := by rw [hw5]; exact (Fr.refl _ _).alloc _
      have hC5 : Bk w5 wr.heap.size 29 #[.pointer (some ⟨gq, 0, none⟩)] := by rw [hw5]; exact Bk.new _ _ _
      have HS5 := Lib.hid (queue_seq w.heap.size gq wr.heap.size 0 vq l0 (by have := HM.out; omega) w5 (HA1.out.fr hf5 (by simp) (by simp)) hC5)
      have HB2 := Lib.hid (HA2.out.fr hf5 (by simp) (by simp))
      have HB3 := Lib.hid (HA3.out.fr hf5 (by simp) (by simp))
      have HB6 := Lib.hid (HA6.out.trans hf5 (by simp))
      have HR5 := Lib.hid (HRR.out.fr HB6.out (by simp))
      have hs5 := HB6.out.size
      clear hw5 hf5 hC5
      go_wp2_with fail
      refine (inside_any 50 #[.pointer (some ⟨wr.heap.size, 0, none⟩)] A k c' l0 _ w5 HM.out.symm (by have := HM.out; omega) HR5.out HS5.out (enters_of Try.func50 (by kernel_rfl) rfl) (fun a ha h0 => Nat.lt_of_lt_of_le (HAL.out a ha h0) hs5)).mono ?_
      rintro e w6 ⟨rfl, hf6⟩
      have HC2 := Lib.hid (HB2.out.fr hf6 (by simp) (by simp))
      have HC3 := Lib.hid (HB3.out.fr hf6 (by simp) (by simp))
      have HC6 := Lib.hid (HB6.out.trans hf6 (by simp))
      clear hf6 HS5 HR5 HB2 HB3 HB6
      go_wp2_with fail
      refine (stack_all gs w6).mono ?_
      rintro e w7 ⟨rfl, hw7⟩
      have hf7 : Fr [] w6 w7 := by rw [hw7]; exact (Fr.refl _ _).alloc _
      have hC7 : Bk w7 w6.heap.size 25 #[.pointer (some ⟨gs, 0, none⟩)] := by rw [hw7]; exact Bk.new _ _ _
      have hsq := stack_seq w.heap.size gs w6.heap.size 0 vs l0.reverse (by rw [List.length_reverse]; have := HM.out; omega) w7 (HC2.out.fr hf7 (by simp) (by simp)) hC7
      rw [List.reverse_reverse] at hsq
      have HS7 := Lib.hid hsq
      have HD3 := Lib.hid (HC3.out.fr hf7 (by simp) (by simp))
      have HD6 := Lib.hid (HC6.out.trans hf7 (by simp))
      have HR7 := Lib.hid (HRR.out.fr HD6.out (by simp))
      have hs7 := HD6.out.size
      clear hw7 hf7 hC7 hsq HC2 HC3 HC6
      go_wp2_with fail
      refine (inside_any 54 #[.pointer (some ⟨w6.heap.size, 0, none⟩)] A k c' l0 _ w7 HM.out.symm (by have := HM.out; omega) HR7.out HS7.out (enters_of Try.func54 (by kernel_rfl) rfl) (fun a ha h0 => Nat.lt_of_lt_of_le (HAL.out a ha h0) hs7)).mono ?_
      rintro e w8 ⟨rfl, hf8⟩
      have HE3 := Lib.hid (HD3.out.fr hf8 (by simp) (by simp))
      have HE6 := Lib.hid (HD6.out.trans hf8 (by simp))
      clear hf8 HS7 HR7 HD3 HD6
      go_wp2_with fail
      refine (tabled_any w.heap.size gt k vt hm5 w8 HE3.out).mono ?_
      rintro e w9 ⟨rfl, hf9⟩
      have HF9 := Lib.hid (HE6.out.trans hf9 (by simp))
      clear hf9 HE3 HE6
      go_wp2_with fail
      go_ret
      exact ⟨rfl, HF9.out⟩
end Go.Proofs.Ytdjaalkbpdmdgaa
