/-
  Bag: BagFrozen's closure for a table.
-/
import Derived.Test.YtdjaalkbpdmdgaaBg25
namespace Go.Proofs.Ytdjaalkbpdmdgaa
open Go.RowKit Go.Shelf
set_option linter.unusedVariables false

def FUN (b0 n₀ : Nat) (T : List Nat) (bo bn g m : Nat) (pre : List PN) (W : World) : Prop :=
  Bk W bo 4 #[.bool true] ∧ Bk W bn 3 #[.int .i64 (pre.length : Nat)] ∧ LooseN b0 n₀ T g (m + 2 * pre.length) W
theorem FUN.alloc {b0 n₀ : Nat} {T : List Nat} {bo bn g m : Nat} {pre : List PN} {W : World} (h : FUN b0 n₀ T bo bn g m pre W) (o : Obj) : FUN b0 n₀ T bo bn g m pre (W.alloc o) :=
  ⟨h.1.alloc o, h.2.1.alloc o, h.2.2.fr ((Fr.refl [] W).alloc o) (by simp)⟩

set_option maxRecDepth 100000 in
set_option maxHeartbeats 1600000 in
theorem frozen_table (b0 n₀ bo bn bl bq g m : Nat) (T : List Nat) (A : Option Addr) (c k : Nat) (pre : List PN) (x : PN) (W : World)
    (h0 : FUN b0 n₀ T bo bn g m pre W) (hl : Bk W bl 22 #[.slice A k c]) (hq : Bk W bq 38 #[.pointer (some ⟨g, 0, none⟩)])
    (hp : pre ++ [x] <+: rowsN 7 k) (hL : k ≤ 500) (hm5 : m ≤ 500) (hlt : bo < n₀ ∧ bn < n₀ ∧ bq < n₀) (hT : bo ∉ T ∧ bn ∉ T ∧ bq ∉ T) (hb : b0 ≤ W.heap.size) (hz : n₀ ≤ W.heap.size) :
    Calls Try.prog 32 #[kN x.1, vN x.2, .pointer (some ⟨bo, 0, none⟩), .pointer (some ⟨bn, 0, none⟩), .pointer (some ⟨bl, 0, none⟩), .pointer (some ⟨bq, 0, none⟩)] W
      (Usr n₀ (bo :: bn :: T) (FUN b0 n₀ T bo bn g m) (fun _ _ => False) pre x W) := by
  obtain ⟨hO, hN, hS⟩ := h0
  obtain ⟨hlen, rfl⟩ := rowsN_next hp
  suffices h : Calls Try.prog 32 #[.int .i64 ((pre.length : Nat) : Int), .int .u64 ((pre.length + 7 : Nat) : Int), .pointer (some ⟨bo, 0, none⟩), .pointer (some ⟨bn, 0, none⟩), .pointer (some ⟨bl, 0, none⟩), .pointer (some ⟨bq, 0, none⟩)] W
      (fun e W' => e = .returned (.bool true) ∧ Kb n₀ (bo :: bn :: T) W W' ∧ Bk W' bo 4 #[.bool true] ∧ Bk W' bn 3 #[.int .i64 (((pre.length : Nat) : Int) + 1)] ∧ LooseN b0 n₀ T g (m + 2 * (pre.length + 1)) W') from
    h.mono (fun e W' ⟨h1, h2, h3, h4, h5⟩ => ⟨true, h1, h2, fun _ => ⟨h3, by rw [show ∀ x : PN, (((pre ++ [x]).length : Nat) : Int) = ((pre.length : Nat) : Int) + 1 by simp]; exact h4, by rw [List.length_append]; exact h5⟩, fun h => by cases h⟩)
  clear hp
  obtain ⟨p, hpp⟩ : ∃ p, pre.length = p := ⟨_, rfl⟩
  rw [hpp] at hlen hN hS ⊢
  clear hpp
  have co := hO.cell 0
  have cn := hN.cell 0
  have cl := hl.cell 0
  have cq := hq.cell 0
  have fo := hO.free 0
  have fn := hN.free 0
  have a1 : bn ≠ bo := hN.ne hO (by decide)
  have a1' := a1.symm
  have a4 : bq ≠ bo := hq.ne hO (by decide)
  have a5 : bq ≠ bn := hq.ne hN (by decide)
  have i1 : (p : Int) < (k : Int) := by omega
  have hw : wrap64 ((p : Int) + 1) = (p : Int) + 1 := IntWalk.wrap64_in _ (by omega)
  have hu : IntKind.u64.wrap (p : Int) = (p : Int) := by rw [IntKind.wrap_u64]; omega
  have hu3 : IntKind.u64.wrap ((p : Int) + 7) = ((p : Int) + 7) := by rw [IntKind.wrap_u64]; omega
  have HO := Lib.hid hO
  have HN := Lib.hid hN
  have HQ := Lib.hid hq
  have HS := Lib.hid hS
  obtain ⟨z, hz1⟩ : ∃ z, z = (W.setCell ⟨bo, 0, none⟩ (.bool true)).setCell ⟨bn, 0, none⟩ (.int .i64 ((p : Int) + 1)) := ⟨_, rfl⟩
  have s1 : Fr [bo] W (W.setCell ⟨bo, 0, none⟩ (.bool true)) := (Fr.refl _ _).setCell (by simp) _
  have s2 : Fr [bn] (W.setCell ⟨bo, 0, none⟩ (.bool true)) z := by rw [hz1]; exact (Fr.refl _ _).setCell (by simp) _
  have sz : Fr [bo, bn] W z := (s1.mono (by simp)).trans s2 (by simp)
  have ZO : Hid (Bk z bo 4 #[.bool true]) := (HO.out.put 0 (.bool true)).fr s2 (by simpa using a1')
  have ZN : Hid (Bk z bn 3 #[.int .i64 ((p : Int) + 1)]) := by rw [hz1]; exact (HN.out.fr s1 (by simpa using a1)).put 0 (.int .i64 ((p : Int) + 1))
  have ZQ : Hid (Bk z bq 38 #[.pointer (some ⟨g, 0, none⟩)]) := HQ.out.fr sz (by simp [a4, a5])
  have ZS : Hid (LooseN b0 n₀ T g (m + 2 * p) z) := HS.out.fr sz (by simp; exact ⟨⟨hT.1, hlt.1⟩, hT.2.1, hlt.2.1⟩)
  have ZK : Hid (Kb n₀ (bo :: bn :: T) W z) := sz.kb (by simp)
  have HZS := Lib.hid sz.size
  have HT := Lib.hid hT
  have HLT := Lib.hid hlt
  have HBZ := Lib.hid (And.intro hb hz)
  have HL5 := Lib.hid (And.intro hlen (And.intro hL hm5))
  clear hlt hb hz hL hm5 hO hN hl hq hS s1 s2 sz hT hlen
  have q1 := ZQ.out.cell 0
  have q2 := ZN.out.cell 0
  go_enter Try.func32, Try.ntmps32
  go_upto_region 3 with fail
  rw [← hz1]
  clear hz1 co cn cl cq fo fn
  go_wp2_with fail
  refine (looseN_drop b0 n₀ T g (m + 2 * p) _ z ZS.out (by have := HL5.out; omega) (by have := HBZ.out; have := HZS.out; omega)).mono ?_
  rintro e w1 ⟨⟨r1, rfl⟩, hl1, hk1⟩
  have XQ := Lib.hid (hk1.bk ZQ.out HLT.out.2.2 HT.out.2.2)
  have XO := Lib.hid (hk1.bk ZO.out HLT.out.1 HT.out.1)
  have XN := Lib.hid (hk1.bk ZN.out HLT.out.2.1 HT.out.2.1)
  have XS := Lib.hid hl1
  have XK : Hid (Kb n₀ (bo :: bn :: T) W w1) := ZK.out.trans (hk1.weak (by simp; exact fun x hx => .inr (.inr hx)))
  have HXS : Hid (W.heap.size ≤ w1.heap.size) := Nat.le_trans HZS.out hk1.size
  have x1 := XQ.out.cell 0
  have x2 := XN.out.cell 0
  have x3 := XO.out.cell 0
  clear hl1 hk1
  go_wp2_with fail
  refine (looseN_set b0 n₀ T g (m + 2 * p) _ 1 w1 XS.out (by have := HL5.out; omega) (by have := HBZ.out; have := HXS.out; omega) (by have := HBZ.out; have := HXS.out; omega)).mono ?_
  rintro e w2 ⟨⟨r2, rfl⟩, hl2, hk2⟩
  have YQ := Lib.hid (hk2.bk XQ.out HLT.out.2.2 HT.out.2.2)
  have YO := Lib.hid (hk2.bk XO.out HLT.out.1 HT.out.1)
  have YN := Lib.hid (hk2.bk XN.out HLT.out.2.1 HT.out.2.1)
  have YS := Lib.hid hl2
  have YK : Hid (Kb n₀ (bo :: bn :: T) W w2) := XK.out.trans (hk2.weak (by simp; exact fun x hx => .inr (.inr hx)))
  have HYS : Hid (W.heap.size ≤ w2.heap.size) := Nat.le_trans HXS.out hk2.size
  have y1 := YQ.out.cell 0
  have y2 := YN.out.cell 0
  have y3 := YO.out.cell 0
  clear hl2 hk2
  go_wp2_with fail
  refine (looseN_set b0 n₀ T g (m + 2 * p + 1) _ 2 w2 YS.out (by have := HL5.out; omega) (by have := HBZ.out; have := HYS.out; omega) (by have := HBZ.out; have := HYS.out; omega)).mono ?_
  rintro e w3 ⟨⟨r3, rfl⟩, hl3, hk3⟩
  have VQ := Lib.hid (hk3.bk YQ.out HLT.out.2.2 HT.out.2.2)
  have VO := Lib.hid (hk3.bk YO.out HLT.out.1 HT.out.1)
  have VN := Lib.hid (hk3.bk YN.out HLT.out.2.1 HT.out.2.1)
  have VS := Lib.hid hl3
  have VK : Hid (Kb n₀ (bo :: bn :: T) W w3) := YK.out.trans (hk3.weak (by simp; exact fun x hx => .inr (.inr hx)))
  have HVS : Hid (W.heap.size ≤ w3.heap.size) := Nat.le_trans HYS.out hk3.size
  have v1 := VQ.out.cell 0
  have v2 := VN.out.cell 0
  have v3 := VO.out.cell 0
  clear hl3 hk3
  go_wp2_with fail
  go_ret
  exact ⟨rfl, VK.out, VO.out, VN.out, VS.out.more (by omega)⟩
end Go.Proofs.Ytdjaalkbpdmdgaa
