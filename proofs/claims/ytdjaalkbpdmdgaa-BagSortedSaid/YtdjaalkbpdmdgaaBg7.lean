/-
  Bag: the statement BagTurns.
-/
import Derived.Test.YtdjaalkbpdmdgaaBg6
namespace Go.Proofs.Ytdjaalkbpdmdgaa
open Go.RowKit
set_option linter.unusedVariables false

/-- A stack and a queue beside one another. -/
def Two (w0 : World) (gs gq : Nat) (m : Int) (ls lq : List Int) (w : World) : Prop :=
  ∃ vs vq, Sk 64 w0.heap.size w gs 0 vs ls ∧ Sk 65 w0.heap.size w gq m vq lq ∧ (∀ x ∈ skT gs vs, x ∉ skT gq vq) ∧ Fr [] w0 w
theorem Two.s {w0 : World} {gs gq : Nat} {m : Int} {ls lq ls' : List Int} {w w' : World} {e : Ending} {r vs vq : Value} (h1 : Sk 64 w0.heap.size w gs 0 vs ls) (h2 : Sk 65 w0.heap.size w gq m vq lq) (h3 : ∀ x ∈ skT gs vs, x ∉ skT gq vq) (h4 : Fr [] w0 w)
    (h : SkTo 64 w0.heap.size gs 0 vs ls' r w e w') : e = .returned r ∧ Two w0 gs gq m ls' lq w' := by
  obtain ⟨he, v', k1, k2, k3⟩ := h
  refine ⟨he, v', vq, k1, h2.fr k2 (fun hx => h3 gq hx (by simp [skT])) (fun k hk hx => h3 k hx (by simp [skT, hk])), fun x hx hq => ?_, h1.step h4 (Nat.le_refl _) k2⟩
  rcases k3 x hx with h | h
  · exact h3 x h hq
  · have := h2.lt x hq; omega
theorem Two.q {w0 : World} {gs gq : Nat} {m : Int} {ls lq lq' : List Int} {w w' : World} {e : Ending} {r vs vq : Value} (h1 : Sk 64 w0.heap.size w gs 0 vs ls) (h2 : Sk 65 w0.heap.size w gq m vq lq) (h3 : ∀ x ∈ skT gs vs, x ∉ skT gq vq) (h4 : Fr [] w0 w)
    (h : SkTo 65 w0.heap.size gq m vq lq' r w e w') : e = .returned r ∧ Two w0 gs gq m ls lq' w' := by
  obtain ⟨he, v', k1, k2, k3⟩ := h
  refine ⟨he, vs, v', h1.fr k2 (fun hx => h3 gs (by simp [skT]) hx) (fun k hk hx => h3 k (by simp [skT, hk]) hx), k1, fun x hx hq => ?_, h2.step h4 (Nat.le_refl _) k2⟩
  rcases k3 x hq with h | h
  · exact h3 x hx h
  · have := h1.lt x hx; omega

set_option maxRecDepth 100000 in
set_option maxHeartbeats 3200000 in
theorem turns_any (A : Option Addr) (n c : Nat) (l : List Int) (w : World) (hn : n = l.length) (hnc : n ≤ c) (hc : c ≤ 9223372036854775807) (hr : RdI w A l) :
    Calls Try.prog 3 #[.slice A n c] w fun e w' => e = .returned (.bool true) ∧ Fr [] w w' := by
  obtain ⟨l0, hl0⟩ : ∃ l0, l.take 500 = l0 := ⟨_, rfl⟩
  obtain ⟨m, hm⟩ : ∃ m, l0.length = m := ⟨_, rfl⟩
  have hmn : m = min n 500 := by rw [← hm, ← hl0, List.length_take, hn]; omega
  have hm5 : m ≤ 500 := by omega
  have HR : Hid (0 < m → ∃ b o, A = some ⟨b, o, none⟩ ∧ b < w.heap.size ∧ ∀ i x, l0[i]? = some x → w.cell? ⟨b, o + i, none⟩ = some (.int .i64 x)) := by
    intro h0
    obtain ⟨b, o, e, hb, hcl⟩ := hr.2 (by omega)
    refine ⟨b, o, e, hb, fun i x hx => hcl i x ?_⟩
    rw [← hl0, List.getElem?_take] at hx
    split at hx
    · exact hx
    · cases hx
  have HM := Lib.hid hm
  clear hr hl0 hm hn
  go_enter Try.func3, Try.ntmps3
  go_wp2_with fail
  refine (known_any w).mono ?_
  rintro e w1 ⟨rfl, hf1⟩
  have HF1 := Lib.hid hf1
  clear hf1
  go_wp2_with fail
  refine (few_any A n c w1 hnc hc).mono ?_
  rintro e w2 ⟨⟨m', c', hm', rfl⟩, rfl⟩
  obtain rfl : m' = m := by omega
  clear hm' hmn hnc hc
  go_wp2_with fail
  refine (stack_new w.heap.size 0 w1 (by omega) HF1.out.size).mono ?_
  rintro e w2 ⟨gs, rfl, hS, hf2, hgs⟩
  have HS2 := Lib.hid hS
  have HF2 := Lib.hid (HF1.out.trans hf2 (by simp))
  clear hS hf2
  go_wp2_with fail
  refine (queue_new w.heap.size (m' : Nat) w2 (by omega) HF2.out.size).mono ?_
  rintro e w3 ⟨gq, rfl, hQ, hf3, hgq⟩
  have HT : Hid (Two w gs gq (m' : Nat) [] [] w3) := by
    refine ⟨_, _, HS2.out.fr hf3 (by simp) (by simp), hQ, fun x hx hq => ?_, HF2.out.trans hf3 (by simp)⟩
    simp only [skT, Value.ownBlock, Option.toList, List.mem_cons, List.not_mem_nil, or_false] at hx hq
    have := HS2.out.B.lt
    omega
  clear hQ hf3 hgq hgs
  go_upto_region 9 with fail
  go_loopw [8] (fun i wr => ∃ k : Nat, k ≤ m' ∧ i = .int .i64 k ∧ Hid (Two w gs gq (m' : Nat) (l0.take k) (l0.take k) wr)) (fun i _ => m' - (intOf i).toNat)
  case atStart => exact ⟨0, by omega, rfl, (by show Two w gs gq (m' : Nat) (l0.take 0) (l0.take 0) w3; simpa using HT.out)⟩
  case round =>
    obtain ⟨k, hk, rfl, hx⟩ := hrel
    obtain ⟨vs, vq, a1, a2, a3, a4⟩ := hx.out
    by_cases hlt : k < m'
    · have HA1 := Lib.hid a1
      have HA2 := Lib.hid a2
      have HA3 := Lib.hid a3
      have HA4 := Lib.hid a4
      clear a1 a2 a3 a4 hx
      obtain ⟨b, o, rfl, hbl, hcl⟩ := HR.out (by omega)
      obtain ⟨x, hx⟩ : ∃ x, l0[k]? = some x := ⟨_, List.getElem?_eq_getElem (by have := HM.out; omega)⟩
      have hcx := hcl k x hx
      have c1 : wr.cell? ⟨b, o + k, none⟩ = some (.int .i64 x) := (World.cell?_of_block (HA4.out.block b hbl (by simp))).trans hcx
      have i0 : (0 : Int) ≤ (k : Int) := by omega
      have i1 : (k : Int) < (m' : Int) := by omega
      have htk : l0.take (k + 1) = l0.take k ++ [x] := by
        obtain ⟨h1, h2⟩ := List.getElem?_eq_some_iff.1 hx
        rw [List.take_succ_eq_append_getElem h1, h2]
      have hlk : (l0.take k).length = k := by rw [List.length_take, HM.out]; omega
      have HTK := Lib.hid (And.intro htk hlk)
      have HCX := Lib.hid hcx
      have HBL := Lib.hid hbl
      clear hcl hx htk hlk hcx hbl
      go_wp2_with fail
      refine (stack_add w.heap.size gs 0 vs (l0.take k) x wr HA1.out (by unfold fullB; simp) (by rw [HTK.out.2]; omega) HA4.out.size (by decide)).mono ?_
      intro e w4 hto
      obtain ⟨rfl, hT4⟩ := Two.s HA1.out HA2.out HA3.out HA4.out hto
      obtain ⟨vs4, vq4, a1, a2, a3, a4⟩ := hT4
      have HB1 := Lib.hid a1
      have HB2 := Lib.hid a2
      have HB3 := Lib.hid a3
      have HB4 := Lib.hid a4
      have c2 : w4.cell? ⟨b, o + k, none⟩ = some (.int .i64 x) := (World.cell?_of_block (HB4.out.block b HBL.out (by simp))).trans HCX.out
      clear a1 a2 a3 a4 c1 hto
      go_wp2_with fail
      refine (queue_add w.heap.size gq (m' : Nat) vq4 (l0.take k) x w4 HB2.out (by unfold fullB; rw [HTK.out.2, decide_eq_false (by omega : ¬ ((m' : Nat) : Int) ≤ ((k : Nat) : Int))]; simp) (by rw [HTK.out.2]; omega) HB4.out.size (by decide)).mono ?_
      intro e w5 hto
      obtain ⟨rfl, hT5⟩ := Two.q HB1.out HB2.out HB3.out HB4.out hto
      have HT5 := Lib.hid hT5
      clear hto hT5 c2
      go_wp2_with fail
      refine (num_any 0 w5).mono ?_
      rintro e w6 ⟨rfl, rfl⟩
      go_wp2_with fail
      refine (num_any 0 w5).mono ?_
      rintro e w6 ⟨rfl, rfl⟩
      go_wp2_with fail
      go_roundw
      case rel => exact ⟨k + 1, by omega, by go_num, by show Two w gs gq (m' : Nat) (l0.take (k + 1)) (l0.take (k + 1)) w5; rw [HTK.out.1]; exact HT5.out⟩
      case measure => simp [intOf]; omega
    · obtain rfl : k = m' := by omega
      have hall : l0.take k = l0 := List.take_of_length_le (by rw [HM.out]; exact Nat.le_refl _)
      have HX : Hid (Two w gs gq (k : Nat) (l0.take (k - 0)) (l0.drop 0) wr) := by
        show Two w gs gq (k : Nat) (l0.take (k - 0)) (l0.drop 0) wr
        have h1 := hx.out
        rw [Nat.sub_zero, List.drop_zero, hall]
        rw [hall] at h1
        exact h1
      obtain ⟨w6, hw6⟩ : ∃ w6, w6 = wr := ⟨_, rfl⟩
      rw [← hw6] at HX ⊢
      clear hx a1 a2 a3 a4 hall hw6 hlt HT HS2 HF2
      go_upto_region 16 with fail
      go_loopw [11] (fun i wr => ∃ j : Nat, j ≤ k ∧ i = .int .i64 j ∧ Hid (Two w gs gq (k : Nat) (l0.take (k - j)) (l0.drop j) wr)) (fun i _ => k - (intOf i).toNat)
      case atStart => exact ⟨0, by omega, rfl, HX.out⟩
      case round =>
        obtain ⟨j, hj, rfl, hx⟩ := hrel
        obtain ⟨vs, vq, a1, a2, a3, a4⟩ := hx.out
        have HA1 := Lib.hid a1
        have HA2 := Lib.hid a2
        have HA3 := Lib.hid a3
        have HA4 := Lib.hid a4
        clear a1 a2 a3 a4 hx
        by_cases hlt : j < k
        · obtain ⟨q, hq⟩ : ∃ q, k - j = q + 1 := ⟨k - j - 1, by omega⟩
          obtain ⟨b, o, rfl, hbl, hcl⟩ := HR.out (by omega)
          obtain ⟨x, hx⟩ : ∃ x, l0[q]? = some x := ⟨_, List.getElem?_eq_getElem (by have := HM.out; omega)⟩
          obtain ⟨y, hy⟩ : ∃ y, l0[j]? = some y := ⟨_, List.getElem?_eq_getElem (by have := HM.out; omega)⟩
          have hcx := hcl q x hx
          have hcy := hcl j y hy
          have i0 : (0 : Int) ≤ (j : Int) := by omega
          have i1 : (j : Int) < (k : Int) := by omega
          have i2 : (k : Int) - 1 - (j : Int) = (q : Int) := by omega
          have i3 : (0 : Int) ≤ (q : Int) := by omega
          have i4 : (q : Int) < (k : Int) := by omega
          have i5 : IntKind.i64.wrap ((k : Int) - 1) = (k : Int) - 1 := IntWalk.i64_in _ (by omega)
          have i6 : IntKind.i64.wrap ((k : Int) - 1 - (j : Int)) = (q : Int) := by rw [i2]; exact IntWalk.i64_in _ (by omega)
          have hl1 : (l0.take (k - j)).length = q + 1 := by rw [List.length_take, HM.out]; omega
          have hg1 : (l0.take (k - j))[q]? = some x := by rw [List.getElem?_take, if_pos (by omega)]; exact hx
          have hl2 : (l0.drop j).length = q + 1 := by rw [List.length_drop, HM.out]; omega
          have hg2 : (l0.drop j)[0]? = some y := by rw [List.getElem?_drop]; exact hy
          have ht1 : (l0.take (k - j)).take q = l0.take (k - (j + 1)) := by rw [List.take_take]; congr 1; omega
          have ht2 : l0.drop (j + 1) = (l0.drop j).drop 1 := by rw [List.drop_drop]
          have H1 := Lib.hid (And.intro hl1 (And.intro hg1 ht1))
          have H2 := Lib.hid (And.intro hl2 (And.intro hg2 ht2))
          have HCX := Lib.hid (And.intro hcx hcy)
          have HBL := Lib.hid hbl
          clear hcl hx hy hcx hcy hbl hl1 hg1 ht1 hl2 hg2 ht2 hq
          go_wp2_with fail
          refine (stack_take w.heap.size gs 0 vs (l0.take (k - j)) q x wr HA1.out H1.out.1 H1.out.2.1 (by decide)).mono ?_
          intro e w7 hto
          obtain ⟨rfl, hT7⟩ := Two.s HA1.out HA2.out HA3.out HA4.out hto
          obtain ⟨vs7, vq7, a1, a2, a3, a4⟩ := hT7
          have HB1 := Lib.hid a1
          have HB2 := Lib.hid a2
          have HB3 := Lib.hid a3
          have HB4 := Lib.hid a4
          clear a1 a2 a3 a4 hto
          go_wp2_with fail
          refine (queue_take w.heap.size gq (k : Nat) vq7 (l0.drop j) q y w7 HB2.out H2.out.1 H2.out.2.1 (l0.drop (j + 1)) H2.out.2.2 (by decide)).mono ?_
          intro e w8 hto
          obtain ⟨rfl, hT8⟩ := Two.q HB1.out HB2.out HB3.out HB4.out hto
          have HT8 : Hid (Two w gs gq (k : Nat) (l0.take (k - (j + 1))) (l0.drop (j + 1)) w8) := by
            rw [← H1.out.2.2]
            exact hT8
          obtain ⟨_, _, _, _, _, hf8⟩ := hT8
          have c1 : w8.cell? ⟨b, o + q, none⟩ = some (.int .i64 x) := (World.cell?_of_block (hf8.block b HBL.out (by simp))).trans HCX.out.1
          have c2 : w8.cell? ⟨b, o + j, none⟩ = some (.int .i64 y) := (World.cell?_of_block (hf8.block b HBL.out (by simp))).trans HCX.out.2
          have x1 : (x != x) = false := by simp
          have x2 : (y != y) = false := by simp
          clear hto hf8
          go_wp2_with fail
          go_roundw
          case rel => exact ⟨j + 1, by omega, by go_num, HT8.out⟩
          case measure => simp [intOf]; omega
        · obtain rfl : j = k := by omega
          have hz1 : l0.take (j - j) = [] := by rw [Nat.sub_self]; rfl
          have hz2 : l0.drop j = [] := List.drop_eq_nil_of_le (by rw [HM.out]; exact Nat.le_refl _)
          rw [hz1] at HA1
          rw [hz2] at HA2
          clear hz1 hz2 HX
          go_wp2_with fail
          refine (stack_none w.heap.size gs 0 vs wr HA1.out).mono ?_
          rintro e w7 ⟨rfl, rfl⟩
          go_wp2_with fail
          refine (queue_none w.heap.size gq (j : Nat) vq wr HA2.out).mono ?_
          rintro e w7 ⟨rfl, rfl⟩
          go_wp2_with fail
          refine (stack_len w.heap.size gs 0 vs [] wr HA1.out).mono ?_
          rintro e w7 ⟨rfl, rfl⟩
          rw [show ((([] : List Int).length : Nat) : Int) = 0 from rfl]
          go_wp2_with fail
          refine (queue_len w.heap.size gq (j : Nat) vq [] wr HA2.out).mono ?_
          rintro e w7 ⟨rfl, rfl⟩
          rw [show ((([] : List Int).length : Nat) : Int) = 0 from rfl]
          go_wp2_with fail
          go_ret
          exact ⟨rfl, HA4.out⟩
end Go.Proofs.Ytdjaalkbpdmdgaa
