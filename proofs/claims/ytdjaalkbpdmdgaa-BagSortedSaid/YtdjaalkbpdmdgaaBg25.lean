/-
  Bag: BagFrozen's closures for a queue and a stack.
-/
import Derived.Test.YtdjaalkbpdmdgaaBg24
namespace Go.Proofs.Ytdjaalkbpdmdgaa
open Go.RowKit Go.Shelf
set_option linter.unusedVariables false

def FU (t : TypeId) (b0 n₀ : Nat) (T : List Nat) (bo bn g m : Nat) (pre : List Int) (W : World) : Prop :=
  Bk W bo 4 #[.bool true] ∧ Bk W bn 3 #[.int .i64 (pre.length : Nat)] ∧ Loose t b0 n₀ T g (m + 2 * pre.length) W
theorem FU.alloc {t : TypeId} {b0 n₀ : Nat} {T : List Nat} {bo bn g m : Nat} {pre : List Int} {W : World} (h : FU t b0 n₀ T bo bn g m pre W) (o : Obj) : FU t b0 n₀ T bo bn g m pre (W.alloc o) :=
  ⟨h.1.alloc o, h.2.1.alloc o, h.2.2.fr ((Fr.refl [] W).alloc o) (by simp)⟩

set_option maxRecDepth 100000 in
set_option maxHeartbeats 1600000 in
theorem frozen_queue (b0 n₀ bo bn bl bq bm g m : Nat) (T : List Nat) (A : Option Addr) (c : Nat) (L : List Int) (more : Int) (pre : List Int) (x : Int) (W : World)
    (h0 : FU 65 b0 n₀ T bo bn g m pre W) (hl : Bk W bl 22 #[.slice A L.length c]) (hq : Bk W bq 29 #[.pointer (some ⟨g, 0, none⟩)]) (hm : Bk W bm 3 #[.int .i64 more]) (hnm : bm ≠ bn)
    (hR : RdI W A L) (hp : pre ++ [x] <+: L) (hL : L.length ≤ 500) (hm5 : m ≤ 500) (hlt : bo < n₀ ∧ bn < n₀ ∧ bq < n₀ ∧ bm < n₀) (hT : bo ∉ T ∧ bn ∉ T ∧ bq ∉ T ∧ bm ∉ T) (hb : b0 ≤ W.heap.size) (hz : n₀ ≤ W.heap.size) :
    Calls Try.prog 31 #[.int .i64 x, .pointer (some ⟨bo, 0, none⟩), .pointer (some ⟨bn, 0, none⟩), .pointer (some ⟨bl, 0, none⟩), .pointer (some ⟨bq, 0, none⟩), .pointer (some ⟨bm, 0, none⟩)] W
      (Usr n₀ (bo :: bn :: T) (FU 65 b0 n₀ T bo bn g m) (fun _ _ => False) pre x W) := by
  obtain ⟨hO, hN, hS⟩ := h0
  have hlen : pre.length < L.length := by have := hp.length_le; simp at this; omega
  have hx : (L)[pre.length]? = some x := by
    obtain ⟨r, hr⟩ := hp
    rw [← hr, List.append_assoc, List.getElem?_append_right (Nat.le_refl _)]
    simp
  suffices h : Calls Try.prog 31 #[.int .i64 x, .pointer (some ⟨bo, 0, none⟩), .pointer (some ⟨bn, 0, none⟩), .pointer (some ⟨bl, 0, none⟩), .pointer (some ⟨bq, 0, none⟩), .pointer (some ⟨bm, 0, none⟩)] W
      (fun e W' => e = .returned (.bool true) ∧ Kb n₀ (bo :: bn :: T) W W' ∧ Bk W' bo 4 #[.bool true] ∧ Bk W' bn 3 #[.int .i64 (((pre.length : Nat) : Int) + 1)] ∧ Loose 65 b0 n₀ T g (m + 2 * (pre.length + 1)) W') from
    h.mono (fun e W' ⟨h1, h2, h3, h4, h5⟩ => ⟨true, h1, h2, fun _ => ⟨h3, by rw [show (((pre ++ [x]).length : Nat) : Int) = ((pre.length : Nat) : Int) + 1 by simp]; exact h4, by rw [List.length_append]; exact h5⟩, fun h => by cases h⟩)
  clear hp
  obtain ⟨p, hpp⟩ : ∃ p, pre.length = p := ⟨_, rfl⟩
  rw [hpp] at hlen hN hx hS ⊢
  clear hpp
  have hcell : ∃ b o, A = some ⟨b, o, none⟩ ∧ W.cell? ⟨b, o + p, none⟩ = some (.int .i64 x) := by
    obtain ⟨b, o, e, hb, hcl⟩ := hR.2 (by omega)
    exact ⟨b, o, e, hcl p x hx⟩
  have i0 : (0 : Int) ≤ (p : Int) := by omega
  have i1 : (p : Int) < (L.length : Int) := by omega
  obtain ⟨b, o, rfl, cx⟩ := hcell
  have co := hO.cell 0
  have cn := hN.cell 0
  have cl := hl.cell 0
  have cq := hq.cell 0
  have fo := hO.free 0
  have fn := hN.free 0
  have a1 : bn ≠ bo := hN.ne hO (by decide)
  have a1' := a1.symm
  have a2 : bl ≠ bo := hl.ne hO (by decide)
  have a4 : bq ≠ bo := hq.ne hO (by decide)
  have a5 : bq ≠ bn := hq.ne hN (by decide)
  have a6 : bm ≠ bo := hm.ne hO (by decide)
  have hw : wrap64 ((p : Int) + 1) = (p : Int) + 1 := IntWalk.wrap64_in _ (by omega)
  have HO := Lib.hid hO
  have HN := Lib.hid hN
  have HQ := Lib.hid hq
  have HM := Lib.hid hm
  have HS := Lib.hid hS
  obtain ⟨z, hz1⟩ : ∃ z, z = (W.setCell ⟨bo, 0, none⟩ (.bool true)).setCell ⟨bn, 0, none⟩ (.int .i64 ((p : Int) + 1)) := ⟨_, rfl⟩
  have s1 : Fr [bo] W (W.setCell ⟨bo, 0, none⟩ (.bool true)) := (Fr.refl _ _).setCell (by simp) _
  have s2 : Fr [bn] (W.setCell ⟨bo, 0, none⟩ (.bool true)) z := by rw [hz1]; exact (Fr.refl _ _).setCell (by simp) _
  have sz : Fr [bo, bn] W z := (s1.mono (by simp)).trans s2 (by simp)
  have ZO : Hid (Bk z bo 4 #[.bool true]) := (HO.out.put 0 (.bool true)).fr s2 (by simpa using a1')
  have ZN : Hid (Bk z bn 3 #[.int .i64 ((p : Int) + 1)]) := by rw [hz1]; exact (HN.out.fr s1 (by simpa using a1)).put 0 (.int .i64 ((p : Int) + 1))
  have ZQ : Hid (Bk z bq 29 #[.pointer (some ⟨g, 0, none⟩)]) := HQ.out.fr sz (by simp [a4, a5])
  have ZM : Hid (Bk z bm 3 #[.int .i64 more]) := HM.out.fr sz (by simp [a6, hnm])
  have ZS : Hid (Loose 65 b0 n₀ T g (m + 2 * p) z) := HS.out.fr sz (by simp; exact ⟨⟨hT.1, hlt.1⟩, hT.2.1, hlt.2.1⟩)
  have ZK : Hid (Kb n₀ (bo :: bn :: T) W z) := sz.kb (by simp)
  have zs := sz.size
  have HT := Lib.hid hT
  have HLT := Lib.hid hlt
  have HBZ := Lib.hid (And.intro hb hz)
  have HL5 := Lib.hid (And.intro hL hm5)
  clear hlt hb hz hL hm5
  clear hO hN hl hq hm hR hS hx s1 s2 sz hT
  have q1 := ZQ.out.cell 0
  go_enter Try.func31, Try.ntmps31
  go_upto_region 3 with fail
  rw [← hz1]
  clear hz1 co cn cl cq fo fn cx
  go_wp2_with fail
  refine (loose_queue_take b0 n₀ T g (m + 2 * p) z ZS.out (by have := HBZ.out; omega)).mono ?_
  rintro e w1 ⟨⟨r1, rfl⟩, hl1, hk1⟩
  have XQ := Lib.hid (hk1.bk ZQ.out HLT.out.2.2.1 HT.out.2.2.1)
  have XM := Lib.hid (hk1.bk ZM.out HLT.out.2.2.2 HT.out.2.2.2)
  have XO := Lib.hid (hk1.bk ZO.out HLT.out.1 HT.out.1)
  have XN := Lib.hid (hk1.bk ZN.out HLT.out.2.1 HT.out.2.1)
  have XS := Lib.hid hl1
  have XK : Hid (Kb n₀ (bo :: bn :: T) W w1) := ZK.out.trans (hk1.weak (by simp; exact fun x hx => .inr (.inr hx)))
  have xs := hk1.size
  have c1 := XQ.out.cell 0
  have c2 := XM.out.cell 0
  have c3 := XO.out.cell 0
  have c4 := XN.out.cell 0
  clear hl1 hk1 q1 ZQ ZM ZO ZN ZS ZK
  go_wp2_with fail
  refine (loose_queue_add b0 n₀ T g (m + 2 * p) more w1 XS.out (by have := HL5.out; omega) (by have := HBZ.out; omega) (by have := HBZ.out; omega)).mono ?_
  rintro e w2 ⟨⟨r2, rfl⟩, hl2, hk2⟩
  have YQ := Lib.hid (hk2.bk XQ.out HLT.out.2.2.1 HT.out.2.2.1)
  have YM := Lib.hid (hk2.bk XM.out HLT.out.2.2.2 HT.out.2.2.2)
  have YO := Lib.hid (hk2.bk XO.out HLT.out.1 HT.out.1)
  have YN := Lib.hid (hk2.bk XN.out HLT.out.2.1 HT.out.2.1)
  have YS := Lib.hid hl2
  have YK : Hid (Kb n₀ (bo :: bn :: T) W w2) := XK.out.trans (hk2.weak (by simp; exact fun x hx => .inr (.inr hx)))
  have ys := hk2.size
  have d1 := YQ.out.cell 0
  have d2 := YM.out.cell 0
  clear hl2 hk2 c1 c2 c3 c4 XQ XM XO XN XS XK
  go_wp2_with fail
  refine (loose_queue_add b0 n₀ T g (m + 2 * p + 1) more w2 YS.out (by have := HL5.out; omega) (by have := HBZ.out; omega) (by have := HBZ.out; omega)).mono ?_
  rintro e w3 ⟨⟨r3, rfl⟩, hl3, hk3⟩
  have WO := Lib.hid (hk3.bk YO.out HLT.out.1 HT.out.1)
  have WN := Lib.hid (hk3.bk YN.out HLT.out.2.1 HT.out.2.1)
  have WS : Hid (Loose 65 b0 n₀ T g (m + 2 * (p + 1)) w3) := hl3.more (by omega)
  have WK : Hid (Kb n₀ (bo :: bn :: T) W w3) := YK.out.trans (hk3.weak (by simp; exact fun x hx => .inr (.inr hx)))
  have e1 := WO.out.cell 0
  clear hl3 hk3 d1 d2 YQ YM YO YN YS YK
  go_wp2_with fail
  go_ret
  exact ⟨rfl, WK.out, WO.out, WN.out, WS.out⟩

set_option maxRecDepth 100000 in
set_option maxHeartbeats 1600000 in
theorem frozen_stack (b0 n₀ bo bn bl bq bm g m : Nat) (T : List Nat) (A : Option Addr) (c : Nat) (L : List Int) (more : Int) (pre : List Int) (x : Int) (W : World)
    (h0 : FU 64 b0 n₀ T bo bn g m pre W) (hl : Bk W bl 22 #[.slice A L.length c]) (hq : Bk W bq 25 #[.pointer (some ⟨g, 0, none⟩)]) (hm : Bk W bm 3 #[.int .i64 more]) (hnm : bm ≠ bn)
    (hR : RdI W A L) (hp : pre ++ [x] <+: L.reverse) (hL : L.length ≤ 500) (hm5 : m ≤ 500) (hlt : bo < n₀ ∧ bn < n₀ ∧ bq < n₀ ∧ bm < n₀) (hT : bo ∉ T ∧ bn ∉ T ∧ bq ∉ T ∧ bm ∉ T) (hb : b0 ≤ W.heap.size) (hz : n₀ ≤ W.heap.size) :
    Calls Try.prog 30 #[.int .i64 x, .pointer (some ⟨bo, 0, none⟩), .pointer (some ⟨bn, 0, none⟩), .pointer (some ⟨bl, 0, none⟩), .pointer (some ⟨bq, 0, none⟩), .pointer (some ⟨bm, 0, none⟩)] W
      (Usr n₀ (bo :: bn :: T) (FU 64 b0 n₀ T bo bn g m) (fun _ _ => False) pre x W) := by
  obtain ⟨hO, hN, hS⟩ := h0
  have hlen : pre.length < L.length := by have := hp.length_le; simp at this; omega
  have hx : (L.reverse)[pre.length]? = some x := by
    obtain ⟨r, hr⟩ := hp
    rw [← hr, List.append_assoc, List.getElem?_append_right (Nat.le_refl _)]
    simp
  suffices h : Calls Try.prog 30 #[.int .i64 x, .pointer (some ⟨bo, 0, none⟩), .pointer (some ⟨bn, 0, none⟩), .pointer (some ⟨bl, 0, none⟩), .pointer (some ⟨bq, 0, none⟩), .pointer (some ⟨bm, 0, none⟩)] W
      (fun e W' => e = .returned (.bool true) ∧ Kb n₀ (bo :: bn :: T) W W' ∧ Bk W' bo 4 #[.bool true] ∧ Bk W' bn 3 #[.int .i64 (((pre.length : Nat) : Int) + 1)] ∧ Loose 64 b0 n₀ T g (m + 2 * (pre.length + 1)) W') from
    h.mono (fun e W' ⟨h1, h2, h3, h4, h5⟩ => ⟨true, h1, h2, fun _ => ⟨h3, by rw [show (((pre ++ [x]).length : Nat) : Int) = ((pre.length : Nat) : Int) + 1 by simp]; exact h4, by rw [List.length_append]; exact h5⟩, fun h => by cases h⟩)
  clear hp
  obtain ⟨p, hpp⟩ : ∃ p, pre.length = p := ⟨_, rfl⟩
  rw [hpp] at hlen hN hx hS ⊢
  clear hpp
  obtain ⟨q, hq'⟩ : ∃ q, L.length - 1 - p = q := ⟨_, rfl⟩
  have hxq : L[q]? = some x := by
    rw [List.getElem?_reverse (by omega), hq'] at hx
    exact hx
  have hcell : ∃ b o, A = some ⟨b, o, none⟩ ∧ W.cell? ⟨b, o + q, none⟩ = some (.int .i64 x) := by
    obtain ⟨b, o, e, hb, hcl⟩ := hR.2 (by omega)
    exact ⟨b, o, e, hcl q x hxq⟩
  have i0 : (0 : Int) ≤ (q : Int) := by omega
  have i1 : (q : Int) < (L.length : Int) := by omega
  have i2 : (p : Int) < (L.length : Int) := by omega
  have i3 : (L.length : Int) - 1 - (p : Int) = (q : Int) := by omega
  have i5 : IntKind.i64.wrap ((L.length : Int) - 1) = (L.length : Int) - 1 := IntWalk.i64_in _ (by omega)
  have i6 : IntKind.i64.wrap ((L.length : Int) - 1 - (p : Int)) = (q : Int) := by rw [i3]; exact IntWalk.i64_in _ (by omega)
  have i7 : IntKind.i64.wrap (q : Int) = (q : Int) := IntWalk.i64_in _ (by omega)
  clear hq' hxq
  obtain ⟨b, o, rfl, cx⟩ := hcell
  have co := hO.cell 0
  have cn := hN.cell 0
  have cl := hl.cell 0
  have cq := hq.cell 0
  have fo := hO.free 0
  have fn := hN.free 0
  have a1 : bn ≠ bo := hN.ne hO (by decide)
  have a1' := a1.symm
  have a2 : bl ≠ bo := hl.ne hO (by decide)
  have a4 : bq ≠ bo := hq.ne hO (by decide)
  have a5 : bq ≠ bn := hq.ne hN (by decide)
  have a6 : bm ≠ bo := hm.ne hO (by decide)
  have hw : wrap64 ((p : Int) + 1) = (p : Int) + 1 := IntWalk.wrap64_in _ (by omega)
  have HO := Lib.hid hO
  have HN := Lib.hid hN
  have HQ := Lib.hid hq
  have HM := Lib.hid hm
  have HS := Lib.hid hS
  obtain ⟨z, hz1⟩ : ∃ z, z = (W.setCell ⟨bo, 0, none⟩ (.bool true)).setCell ⟨bn, 0, none⟩ (.int .i64 ((p : Int) + 1)) := ⟨_, rfl⟩
  have s1 : Fr [bo] W (W.setCell ⟨bo, 0, none⟩ (.bool true)) := (Fr.refl _ _).setCell (by simp) _
  have s2 : Fr [bn] (W.setCell ⟨bo, 0, none⟩ (.bool true)) z := by rw [hz1]; exact (Fr.refl _ _).setCell (by simp) _
  have sz : Fr [bo, bn] W z := (s1.mono (by simp)).trans s2 (by simp)
  have ZO : Hid (Bk z bo 4 #[.bool true]) := (HO.out.put 0 (.bool true)).fr s2 (by simpa using a1')
  have ZN : Hid (Bk z bn 3 #[.int .i64 ((p : Int) + 1)]) := by rw [hz1]; exact (HN.out.fr s1 (by simpa using a1)).put 0 (.int .i64 ((p : Int) + 1))
  have ZQ : Hid (Bk z bq 25 #[.pointer (some ⟨g, 0, none⟩)]) := HQ.out.fr sz (by simp [a4, a5])
  have ZM : Hid (Bk z bm 3 #[.int .i64 more]) := HM.out.fr sz (by simp [a6, hnm])
  have ZS : Hid (Loose 64 b0 n₀ T g (m + 2 * p) z) := HS.out.fr sz (by simp; exact ⟨⟨hT.1, hlt.1⟩, hT.2.1, hlt.2.1⟩)
  have ZK : Hid (Kb n₀ (bo :: bn :: T) W z) := sz.kb (by simp)
  have zs := sz.size
  have HT := Lib.hid hT
  have HLT := Lib.hid hlt
  have HBZ := Lib.hid (And.intro hb hz)
  have HL5 := Lib.hid (And.intro hL hm5)
  clear hlt hb hz hL hm5
  clear hO hN hl hq hm hR hS hx s1 s2 sz hT
  have q1 := ZQ.out.cell 0
  go_enter Try.func30, Try.ntmps30
  go_upto_region 3 with fail
  rw [← hz1]
  clear hz1 co cn cl cq fo fn cx
  go_wp2_with fail
  refine (loose_stack_take b0 n₀ T g (m + 2 * p) z ZS.out (by have := HBZ.out; omega)).mono ?_
  rintro e w1 ⟨⟨r1, rfl⟩, hl1, hk1⟩
  have XQ := Lib.hid (hk1.bk ZQ.out HLT.out.2.2.1 HT.out.2.2.1)
  have XM := Lib.hid (hk1.bk ZM.out HLT.out.2.2.2 HT.out.2.2.2)
  have XO := Lib.hid (hk1.bk ZO.out HLT.out.1 HT.out.1)
  have XN := Lib.hid (hk1.bk ZN.out HLT.out.2.1 HT.out.2.1)
  have XS := Lib.hid hl1
  have XK : Hid (Kb n₀ (bo :: bn :: T) W w1) := ZK.out.trans (hk1.weak (by simp; exact fun x hx => .inr (.inr hx)))
  have xs := hk1.size
  have c1 := XQ.out.cell 0
  have c2 := XM.out.cell 0
  have c3 := XO.out.cell 0
  have c4 := XN.out.cell 0
  clear hl1 hk1 q1 ZQ ZM ZO ZN ZS ZK
  by_cases h2 : (p + 1) % 2 = 0
  · have h2' : Int.tmod ((p : Int) + 1) 2 = 0 := by
      rw [Int.tmod_eq_emod_of_nonneg (by omega)]
      omega
    go_wp2_with fail
    refine (loose_stack_add b0 n₀ T g (m + 2 * p) more w1 XS.out (by have := HL5.out; omega) (by have := HBZ.out; omega) (by have := HBZ.out; omega)).mono ?_
    rintro e w2 ⟨⟨r2, rfl⟩, hl2, hk2⟩
    have YQ := Lib.hid (hk2.bk XQ.out HLT.out.2.2.1 HT.out.2.2.1)
    have YM := Lib.hid (hk2.bk XM.out HLT.out.2.2.2 HT.out.2.2.2)
    have YO := Lib.hid (hk2.bk XO.out HLT.out.1 HT.out.1)
    have YN := Lib.hid (hk2.bk XN.out HLT.out.2.1 HT.out.2.1)
    have YS := Lib.hid hl2
    have YK : Hid (Kb n₀ (bo :: bn :: T) W w2) := XK.out.trans (hk2.weak (by simp; exact fun x hx => .inr (.inr hx)))
    have ys := hk2.size
    have d1 := YQ.out.cell 0
    have d2 := YM.out.cell 0
    clear hl2 hk2 c1 c2 c3 c4 XQ XM XO XN XS XK
    go_wp2_with fail
    refine (loose_stack_add b0 n₀ T g (m + 2 * p + 1) more w2 YS.out (by have := HL5.out; omega) (by have := HBZ.out; omega) (by have := HBZ.out; omega)).mono ?_
    rintro e w3 ⟨⟨r3, rfl⟩, hl3, hk3⟩
    have WO := Lib.hid (hk3.bk YO.out HLT.out.1 HT.out.1)
    have WN := Lib.hid (hk3.bk YN.out HLT.out.2.1 HT.out.2.1)
    have WS : Hid (Loose 64 b0 n₀ T g (m + 2 * (p + 1)) w3) := hl3.more (by omega)
    have WK : Hid (Kb n₀ (bo :: bn :: T) W w3) := YK.out.trans (hk3.weak (by simp; exact fun x hx => .inr (.inr hx)))
    have e1 := WO.out.cell 0
    clear hl3 hk3 d1 d2 YQ YM YO YN YS YK
    go_wp2_with fail
    go_ret
    exact ⟨rfl, WK.out, WO.out, WN.out, WS.out⟩
  · have h2' : ¬ Int.tmod ((p : Int) + 1) 2 = 0 := by
      rw [Int.tmod_eq_emod_of_nonneg (by omega)]
      omega
    go_wp2_with fail
    go_ret
    exact ⟨rfl, XK.out, XO.out, XN.out, XS.out.more (by omega)⟩
end Go.Proofs.Ytdjaalkbpdmdgaa
