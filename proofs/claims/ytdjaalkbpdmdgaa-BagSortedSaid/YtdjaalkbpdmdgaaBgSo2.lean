/-
  Bag: BagSorted's closure.
-/
import Derived.Test.YtdjaalkbpdmdgaaBgSo1
namespace Go.Proofs.Ytdjaalkbpdmdgaa
open Go.RowKit Go.Shelf
set_option linter.unusedVariables false

theorem Bk.one {w : World} {g : Nat} {t : TypeId} {u0 : Value} (h : Bk w g t #[u0]) (u : Value) : Bk (w.setCell ⟨g, 0, none⟩ u) g t #[u] := h.put 0 u
theorem Bk.off {w : World} {g b : Nat} {t : TypeId} {cs : Array Value} (h : Bk w g t cs) (hne : g ≠ b) (u : Value) : Bk (w.setCell ⟨b, 0, none⟩ u) g t cs := h.far (p := ⟨b, 0, none⟩) hne u

def SU (bo bn bla bne bfo : Nat) (ask : Int) (pre : List PN) (W : World) : Prop :=
  Bk W bo 4 #[.bool true] ∧ Bk W bn 3 #[.int .i64 (pre.length : Nat)] ∧ Bk W bla 3 #[.int .i64 (lastK pre)] ∧ Bk W bne 3 #[.int .i64 ((nearK pre ask).getD 0)] ∧ Bk W bfo 4 #[.bool (nearK pre ask).isSome]
theorem SU.alloc {bo bn bla bne bfo : Nat} {ask : Int} {pre : List PN} {W : World} (h : SU bo bn bla bne bfo ask pre W) (o : Obj) : SU bo bn bla bne bfo ask pre (W.alloc o) :=
  ⟨h.1.alloc o, h.2.1.alloc o, h.2.2.1.alloc o, h.2.2.2.1.alloc o, h.2.2.2.2.alloc o⟩
theorem SU.fr {bo bn bla bne bfo : Nat} {ask : Int} {pre : List PN} {W W' : World} (h : SU bo bn bla bne bfo ask pre W) (hf : Fr [] W W') : SU bo bn bla bne bfo ask pre W' :=
  ⟨h.1.fr hf (by simp), h.2.1.fr hf (by simp), h.2.2.1.fr hf (by simp), h.2.2.2.1.fr hf (by simp), h.2.2.2.2.fr hf (by simp)⟩

def SEnd (n₀ bo bn bla bne bfo : Nat) (W : World) (p k ask ne : Int) (fo : Bool) (e : Ending) (W' : World) : Prop :=
  e = .returned (.bool true) ∧ Kb n₀ [bo, bn, bla, bne, bfo] W W' ∧ Bk W' bo 4 #[.bool true] ∧ Bk W' bn 3 #[.int .i64 (p + 1)] ∧ Bk W' bla 3 #[.int .i64 k] ∧
        ((k ≤ ask ∧ Bk W' bne 3 #[.int .i64 k] ∧ Bk W' bfo 4 #[.bool true]) ∨ (¬ k ≤ ask ∧ Bk W' bne 3 #[.int .i64 ne] ∧ Bk W' bfo 4 #[.bool fo]))

set_option maxRecDepth 100000 in
set_option maxHeartbeats 3200000 in
theorem sorted1 (b0 g n₀ bt bo bn bla bl ba bne bfo : Nat) (tv : Value) (T : List PN) (l d : List Int) (A : Option Addr) (c : Nat) (ask : Int) (pre : List PN) (x : PN) (W : World)
    (h0 : SU bo bn bla bne bfo ask pre W) (hT : TbN b0 W g tv T) (ht : Bk W bt 38 #[.pointer (some ⟨g, 0, none⟩)]) (hl : Bk W bl 22 #[.slice A l.length c]) (ha : Bk W ba 3 #[.int .i64 ask])
    (hR : RdI W A l) (hL : l.length ≤ 500) (hne : bn ≠ bla ∧ bn ≠ bne ∧ bla ≠ bne ∧ ba ≠ bn ∧ ba ≠ bla ∧ ba ≠ bne ∧ bo ≠ bfo) (hp : pre ++ [x] <+: T) (hD : DI l d d.length T) :
    Calls Try.prog 22 #[kN x.1, vN x.2, .pointer (some ⟨bt, 0, none⟩), .pointer (some ⟨bo, 0, none⟩), .pointer (some ⟨bn, 0, none⟩), .pointer (some ⟨bla, 0, none⟩), .pointer (some ⟨bl, 0, none⟩), .pointer (some ⟨ba, 0, none⟩), .pointer (some ⟨bne, 0, none⟩), .pointer (some ⟨bfo, 0, none⟩)] W
      (Usr n₀ [bo, bn, bla, bne, bfo] (SU bo bn bla bne bfo ask) (fun _ _ => False) pre x W) := by
  obtain ⟨k, v⟩ := x
  obtain ⟨hO, hN, hA, hE, hF⟩ := h0
  have hmem : (k, v) ∈ T := by obtain ⟨r, hr⟩ := hp; rw [← hr]; simp
  obtain ⟨hget, q, hv, hq, hlq⟩ := hD.has hmem
  have hv : v = (q : Int) := hv
  subst hv
  have hlen : pre.length < l.length := by have := hp.length_le; have := hD.len; simp at *; omega
  have hlast : pre = [] ∨ (pre ≠ [] ∧ lastK pre < k) := by
    by_cases h : pre = []
    · exact .inl h
    · exact .inr ⟨h, lastK_lt hD.rise hp h⟩
  have HG : Hid (Calls Try.prog 23 #[.pointer (some ⟨g, 0, none⟩), .int .i64 k] W fun e w' => e = .returned (.tuple #[.int .u64 (q : Nat), .bool true]) ∧ Fr [] W w') := by
    have := getN_any b0 g tv T k W hT (by have := hD.len; omega)
    rw [hget] at this
    exact this
  suffices h : Calls Try.prog 22 #[.int .i64 k, .int .u64 (q : Nat), .pointer (some ⟨bt, 0, none⟩), .pointer (some ⟨bo, 0, none⟩), .pointer (some ⟨bn, 0, none⟩), .pointer (some ⟨bla, 0, none⟩), .pointer (some ⟨bl, 0, none⟩), .pointer (some ⟨ba, 0, none⟩), .pointer (some ⟨bne, 0, none⟩), .pointer (some ⟨bfo, 0, none⟩)] W
      (SEnd n₀ bo bn bla bne bfo W (pre.length : Nat) k ask ((nearK pre ask).getD 0) (nearK pre ask).isSome) from
    h.mono (fun e W' ⟨h1, h2, h3, h4, h5, h6⟩ => ⟨true, h1, h2, fun _ => ⟨h3, by rw [show ∀ x : PN, (((pre ++ [x]).length : Nat) : Int) = ((pre.length : Nat) : Int) + 1 by simp]; exact h4, by rw [lastK_snoc]; exact h5, by
        rw [nearK_snoc]
        rcases h6 with ⟨a, b, c⟩ | ⟨a, b, c⟩
        · rw [if_pos a]; exact b
        · rw [if_neg a]; exact b, by
        rw [nearK_snoc]
        rcases h6 with ⟨a, b, c⟩ | ⟨a, b, c⟩
        · rw [if_pos a]; exact c
        · rw [if_neg a]; exact c⟩, fun h => by cases h⟩)
  clear hp hD hmem hget hT
  obtain ⟨p, hpp⟩ : ∃ p, pre.length = p := ⟨_, rfl⟩
  obtain ⟨la, hla⟩ : ∃ la, lastK pre = la := ⟨_, rfl⟩
  obtain ⟨ne, hne1⟩ : ∃ ne, (nearK pre ask).getD 0 = ne := ⟨_, rfl⟩
  obtain ⟨fo, hfo⟩ : ∃ fo, (nearK pre ask).isSome = fo := ⟨_, rfl⟩
  have hcase : (((p : Nat) : Int) == 0) = true ∨ ((((p : Nat) : Int) == 0) = false ∧ decide (la < k) = true) := by
    rcases hlast with h | ⟨h, h2⟩
    · left; subst h; rw [← hpp]; rfl
    · right
      rw [hla] at h2
      have : p ≠ 0 := fun e => h (List.eq_nil_of_length_eq_zero (by omega))
      exact ⟨by simpa using this, decide_eq_true h2⟩
  rw [hpp] at hlen hN ⊢
  rw [hla] at hA
  rw [hne1] at hE ⊢
  rw [hfo] at hF ⊢
  clear hpp hla hne1 hfo hlast pre
  obtain ⟨m, hm⟩ : ∃ m, l.length = m := ⟨_, rfl⟩
  obtain ⟨b, o, rfl, cx⟩ : ∃ b o, A = some ⟨b, o, none⟩ ∧ W.cell? ⟨b, o + q, none⟩ = some (.int .i64 k) ∧ b < W.heap.size := by
    obtain ⟨b, o, e, hb, hcl⟩ := hR.2 (by omega)
    exact ⟨b, o, e, hcl q k hlq, hb⟩
  obtain ⟨cx, hbl⟩ := cx
  rw [hm] at hq hlen hL hl
  -- blocks
  have E_bo_bne : Hid (bo ≠ bne) := hO.ne hE (by decide)
  have E_bo_bfo : Hid (bo ≠ bfo) := hne.2.2.2.2.2.2
  have E_bo_bla : Hid (bo ≠ bla) := hO.ne hA (by decide)
  have E_bo_bn : Hid (bo ≠ bn) := hO.ne hN (by decide)
  have E_bn_bo : Hid (bn ≠ bo) := hN.ne hO (by decide)
  have E_bn_bne : Hid (bn ≠ bne) := hne.2.1
  have E_bn_bfo : Hid (bn ≠ bfo) := hN.ne hF (by decide)
  have E_bn_bla : Hid (bn ≠ bla) := hne.1
  have E_bla_bo : Hid (bla ≠ bo) := hA.ne hO (by decide)
  have E_bla_bne : Hid (bla ≠ bne) := hne.2.2.1
  have E_bla_bfo : Hid (bla ≠ bfo) := hA.ne hF (by decide)
  have E_bla_bn : Hid (bla ≠ bn) := (hne.1).symm
  have E_bne_bo : Hid (bne ≠ bo) := hE.ne hO (by decide)
  have E_bne_bfo : Hid (bne ≠ bfo) := hE.ne hF (by decide)
  have E_bne_bla : Hid (bne ≠ bla) := (hne.2.2.1).symm
  have E_bne_bn : Hid (bne ≠ bn) := (hne.2.1).symm
  have E_bfo_bo : Hid (bfo ≠ bo) := (hne.2.2.2.2.2.2).symm
  have E_bfo_bne : Hid (bfo ≠ bne) := hF.ne hE (by decide)
  have E_bfo_bla : Hid (bfo ≠ bla) := hF.ne hA (by decide)
  have E_bfo_bn : Hid (bfo ≠ bn) := hF.ne hN (by decide)
  have E_ba_bo : Hid (ba ≠ bo) := ha.ne hO (by decide)
  have E_ba_bne : Hid (ba ≠ bne) := hne.2.2.2.2.2.1
  have E_ba_bfo : Hid (ba ≠ bfo) := ha.ne hF (by decide)
  have E_ba_bla : Hid (ba ≠ bla) := hne.2.2.2.2.1
  have E_ba_bn : Hid (ba ≠ bn) := hne.2.2.2.1
  have E_bl_bo : Hid (bl ≠ bo) := hl.ne hO (by decide)
  have E_bl_bne : Hid (bl ≠ bne) := hl.ne hE (by decide)
  have E_bl_bfo : Hid (bl ≠ bfo) := hl.ne hF (by decide)
  have E_bl_bla : Hid (bl ≠ bla) := hl.ne hA (by decide)
  have E_bl_bn : Hid (bl ≠ bn) := hl.ne hN (by decide)
  have E_bt_bo : Hid (bt ≠ bo) := ht.ne hO (by decide)
  have E_bt_bne : Hid (bt ≠ bne) := ht.ne hE (by decide)
  have E_bt_bfo : Hid (bt ≠ bfo) := ht.ne hF (by decide)
  have E_bt_bla : Hid (bt ≠ bla) := ht.ne hA (by decide)
  have E_bt_bn : Hid (bt ≠ bn) := ht.ne hN (by decide)
  have Hbo := Lib.hid hO
  have Hbn := Lib.hid hN
  have Hbla := Lib.hid hA
  have Hbne := Lib.hid hE
  have Hbfo := Lib.hid hF
  have Hba := Lib.hid ha
  have Hbl := Lib.hid hl
  have Hbt := Lib.hid ht
  have i0 : (0 : Int) ≤ (q : Int) := by omega
  have i1 : (q : Int) < (m : Int) := by omega
  have i2 : decide ((q : Int) < (m : Int)) = true := decide_eq_true i1
  have i3 : IntKind.u64.wrap (m : Int) = (m : Int) := by rw [IntKind.wrap_u64]; omega
  have i4 : wrap64 ((p : Int) + 1) = (p : Int) + 1 := IntWalk.wrap64_in _ (by omega)
  have i5 : ((p : Int) + 1 ≤ (m : Int)) := by omega
  have HCX := Lib.hid cx
  have HBL := Lib.hid hbl
  have HM := Lib.hid hm
  have ct := ht.cell 0
  clear hO hN hA hE hF ht hl ha hne hR hlq hq hlen hm cx hbl
  have fin : ∀ w2, Fr [] W w2 → Hid (Bk w2 bo 4 #[.bool true]) ∧ Hid (Bk w2 bn 3 #[.int .i64 (p : Nat)]) ∧ Hid (Bk w2 bla 3 #[.int .i64 la]) ∧ Hid (Bk w2 bne 3 #[.int .i64 ne]) ∧ Hid (Bk w2 bfo 4 #[.bool fo]) ∧ Hid (Bk w2 ba 3 #[.int .i64 ask]) ∧ Hid (Bk w2 bl 22 #[.slice (some ⟨b, o, none⟩) m c]) ∧ w2.cell? ⟨b, o + q, none⟩ = some (.int .i64 k) := fun w2 hf =>
    ⟨Hbo.out.fr hf (by simp), Hbn.out.fr hf (by simp), Hbla.out.fr hf (by simp), Hbne.out.fr hf (by simp), Hbfo.out.fr hf (by simp), Hba.out.fr hf (by simp), Hbl.out.fr hf (by simp), (World.cell?_of_block (hf.block b HBL.out (by simp))).trans HCX.out⟩
  have FIN := Lib.hid fin
  clear fin
  rcases hcase with hz | ⟨hz, hz2⟩
  all_goals
    by_cases hk : k ≤ ask
    · have HK := Lib.hid hk
      have hkd : decide (k ≤ ask) = true := decide_eq_true hk
      go_enter Try.func22, Try.ntmps22
      go_wp2_with fail
      refine (Calls.mono HG.out ?_)
      rintro e w2 ⟨rfl, hf⟩
      obtain ⟨ZO, ZN, ZA, ZE, ZF, ZK, ZL, Zc⟩ := FIN.out w2 hf
      have HF := Lib.hid hf
      have c1 := ZO.out.cell 0
      have c2 := ZN.out.cell 0
      have c3 := ZA.out.cell 0
      have c5 := ZL.out.cell 0
      have f1 := ZO.out.free 0
      clear hf
      go_upto_region 3 with fail
      obtain ⟨z1, hz1⟩ : ∃ z1, z1 = w2.setCell ⟨bo, 0, none⟩ (.bool true) := ⟨_, rfl⟩
      have HF1 : Hid (Fr [bo, bn, bla, bne, bfo] W z1) := by show Fr _ W z1; rw [hz1]; exact (HF.out.mono (by simp)).setCell (.inl (by simp)) _
      have YO : Hid (Bk z1 bo 4 #[.bool true]) := by show Bk z1 bo _ _; rw [hz1]; exact (Bk.one ZO.out _)
      have YN : Hid (Bk z1 bn 3 #[.int .i64 (p : Nat)]) := by show Bk z1 bn _ _; rw [hz1]; exact (Bk.off ZN.out E_bn_bo.out _)
      have YA : Hid (Bk z1 bla 3 #[.int .i64 la]) := by show Bk z1 bla _ _; rw [hz1]; exact (Bk.off ZA.out E_bla_bo.out _)
      have YE : Hid (Bk z1 bne 3 #[.int .i64 ne]) := by show Bk z1 bne _ _; rw [hz1]; exact (Bk.off ZE.out E_bne_bo.out _)
      have YF : Hid (Bk z1 bfo 4 #[.bool fo]) := by show Bk z1 bfo _ _; rw [hz1]; exact (Bk.off ZF.out E_bfo_bo.out _)
      have YK : Hid (Bk z1 ba 3 #[.int .i64 ask]) := by show Bk z1 ba _ _; rw [hz1]; exact (Bk.off ZK.out E_ba_bo.out _)
      have YL : Hid (Bk z1 bl 22 #[.slice (some ⟨b, o, none⟩) m c]) := by show Bk z1 bl _ _; rw [hz1]; exact (Bk.off ZL.out E_bl_bo.out _)
      rw [← hz1]
      clear hz1 c1 c2 c3 c5 f1 Zc HF ZO ZN ZA ZE ZF ZK ZL
      have c1 := YO.out.cell 0
      have c2 := YN.out.cell 0
      have c3 := YA.out.cell 0
      have c4 := YK.out.cell 0
      have c5 := YL.out.cell 0
      have c6 := YE.out.cell 0
      have c7 := YF.out.cell 0
      have f2 := YN.out.free 0
      have f3 := YA.out.free 0
      have f4 := YE.out.free 0
      have f5 := YF.out.free 0
      have n1 := E_bo_bne.out
      have n2 := E_bo_bfo.out
      have n3 := E_bo_bla.out
      have n4 := E_bo_bn.out
      have n5 := E_bn_bne.out
      have n6 := E_bn_bfo.out
      have n7 := E_bn_bla.out
      have n8 := E_bl_bne.out
      have n9 := E_bl_bfo.out
      have n10 := E_bl_bla.out
      have n11 := E_bl_bn.out
      have n12 := E_bla_bne.out
      have n13 := E_bla_bfo.out
      have n14 := E_bfo_bne.out
      go_wp2_with fail
      go_ret
      exact ⟨rfl, Fr.kb ((((HF1.out.setCell (.inl (by simp)) _).setCell (.inl (by simp)) _).setCell (.inl (by simp)) _).setCell (.inl (by simp)) _) (by simp), (Bk.off (Bk.off (Bk.off (Bk.off YO.out E_bo_bne.out _) E_bo_bfo.out _) E_bo_bla.out _) E_bo_bn.out _), (Bk.one (Bk.off (Bk.off (Bk.off YN.out E_bn_bne.out _) E_bn_bfo.out _) E_bn_bla.out _) _), (Bk.off (Bk.one (Bk.off (Bk.off YA.out E_bla_bne.out _) E_bla_bfo.out _) _) E_bla_bn.out _), .inl ⟨(by have := HK.out; omega), (Bk.off (Bk.off (Bk.off (Bk.one YE.out _) E_bne_bfo.out _) E_bne_bla.out _) E_bne_bn.out _), (Bk.off (Bk.off (Bk.one (Bk.off YF.out E_bfo_bne.out _) _) E_bfo_bla.out _) E_bfo_bn.out _)⟩⟩
    · have HK := Lib.hid hk
      have hkd : decide (k ≤ ask) = false := decide_eq_false hk
      go_enter Try.func22, Try.ntmps22
      go_wp2_with fail
      refine (Calls.mono HG.out ?_)
      rintro e w2 ⟨rfl, hf⟩
      obtain ⟨ZO, ZN, ZA, ZE, ZF, ZK, ZL, Zc⟩ := FIN.out w2 hf
      have HF := Lib.hid hf
      have c1 := ZO.out.cell 0
      have c2 := ZN.out.cell 0
      have c3 := ZA.out.cell 0
      have c5 := ZL.out.cell 0
      have f1 := ZO.out.free 0
      clear hf
      go_upto_region 3 with fail
      obtain ⟨z1, hz1⟩ : ∃ z1, z1 = w2.setCell ⟨bo, 0, none⟩ (.bool true) := ⟨_, rfl⟩
      have HF1 : Hid (Fr [bo, bn, bla, bne, bfo] W z1) := by show Fr _ W z1; rw [hz1]; exact (HF.out.mono (by simp)).setCell (.inl (by simp)) _
      have YO : Hid (Bk z1 bo 4 #[.bool true]) := by show Bk z1 bo _ _; rw [hz1]; exact (Bk.one ZO.out _)
      have YN : Hid (Bk z1 bn 3 #[.int .i64 (p : Nat)]) := by show Bk z1 bn _ _; rw [hz1]; exact (Bk.off ZN.out E_bn_bo.out _)
      have YA : Hid (Bk z1 bla 3 #[.int .i64 la]) := by show Bk z1 bla _ _; rw [hz1]; exact (Bk.off ZA.out E_bla_bo.out _)
      have YE : Hid (Bk z1 bne 3 #[.int .i64 ne]) := by show Bk z1 bne _ _; rw [hz1]; exact (Bk.off ZE.out E_bne_bo.out _)
      have YF : Hid (Bk z1 bfo 4 #[.bool fo]) := by show Bk z1 bfo _ _; rw [hz1]; exact (Bk.off ZF.out E_bfo_bo.out _)
      have YK : Hid (Bk z1 ba 3 #[.int .i64 ask]) := by show Bk z1 ba _ _; rw [hz1]; exact (Bk.off ZK.out E_ba_bo.out _)
      have YL : Hid (Bk z1 bl 22 #[.slice (some ⟨b, o, none⟩) m c]) := by show Bk z1 bl _ _; rw [hz1]; exact (Bk.off ZL.out E_bl_bo.out _)
      rw [← hz1]
      clear hz1 c1 c2 c3 c5 f1 Zc HF ZO ZN ZA ZE ZF ZK ZL
      have c1 := YO.out.cell 0
      have c2 := YN.out.cell 0
      have c3 := YA.out.cell 0
      have c4 := YK.out.cell 0
      have c5 := YL.out.cell 0
      have c6 := YE.out.cell 0
      have c7 := YF.out.cell 0
      have f2 := YN.out.free 0
      have f3 := YA.out.free 0
      have f4 := YE.out.free 0
      have f5 := YF.out.free 0
      have n1 := E_bo_bla.out
      have n2 := E_bo_bn.out
      have n3 := E_bn_bla.out
      have n4 := E_bl_bla.out
      have n5 := E_bl_bn.out
      go_wp2_with fail
      go_ret
      exact ⟨rfl, Fr.kb ((HF1.out.setCell (.inl (by simp)) _).setCell (.inl (by simp)) _) (by simp), (Bk.off (Bk.off YO.out E_bo_bla.out _) E_bo_bn.out _), (Bk.one (Bk.off YN.out E_bn_bla.out _) _), (Bk.off (Bk.one YA.out _) E_bla_bn.out _), .inr ⟨(by have := HK.out; omega), (Bk.off (Bk.off YE.out E_bne_bla.out _) E_bne_bn.out _), (Bk.off (Bk.off YF.out E_bfo_bla.out _) E_bfo_bn.out _)⟩⟩
end Go.Proofs.Ytdjaalkbpdmdgaa
