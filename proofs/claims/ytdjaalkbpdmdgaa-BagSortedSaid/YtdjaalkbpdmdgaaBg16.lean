/-
  Bag: inside (whatfor.go): an iterator gone through within itself.
-/
import Derived.Test.YtdjaalkbpdmdgaaBg15
namespace Go.Proofs.Ytdjaalkbpdmdgaa
open Go.RowKit Go.Shelf
set_option linter.unusedVariables false

def InU (bo bn : Nat) (pre : List Int) (W : World) : Prop := Bk W bo 4 #[.bool true] ∧ Bk W bn 3 #[.int .i64 (pre.length : Nat)]

set_option maxRecDepth 100000 in
set_option maxHeartbeats 1600000 in
theorem inside1 (n₀ bo bn bl bq gs : Nat) (sc : Array Value) (A : Option Addr) (n c : Nat) (L : List Int) (B : List Nat) (pre : List Int) (x : Int) (W : World)
    (h0 : InU bo bn pre W) (hl : Bk W bl 22 #[.slice A n c]) (hq : Bk W bq 52 #[.func (.func gs) #[] sc]) (hn : n = L.length) (hL : L.length ≤ 500) (hR : RdI W A L)
    (hS : Seq Try.prog gs sc L encI B W) (eg : ∀ args w, (callFunc gs args).run Try.prog w = .ok (.enter gs args) w) (hp : pre ++ [x] <+: L) (hB : bo ∉ B ∧ bn ∉ B) (hA : ∀ a, A = some a → a.block ≠ bo ∧ a.block ≠ bn) (hz : n₀ ≤ W.heap.size) :
    Calls Try.prog 47 #[.int .i64 x, .pointer (some ⟨bo, 0, none⟩), .pointer (some ⟨bn, 0, none⟩), .pointer (some ⟨bl, 0, none⟩), .pointer (some ⟨bq, 0, none⟩)] W
      (Usr n₀ [bo, bn] (InU bo bn) (fun _ _ => False) pre x W) := by
  subst hn
  obtain ⟨hO, hN⟩ := h0
  have hlen : pre.length < L.length := by have := hp.length_le; simp at this; omega
  have hx : L[pre.length]? = some x := by
    obtain ⟨r, hr⟩ := hp
    rw [← hr, List.append_assoc, List.getElem?_append_right (Nat.le_refl _)]
    simp
  obtain ⟨b, o, rfl, hb, hcl⟩ := hR.2 (by omega)
  have cx := hcl pre.length x hx
  have co : W.cell? ⟨bo, 0, none⟩ = some (.bool true) := hO.cell 0
  have cn : W.cell? ⟨bn, 0, none⟩ = some (.int .i64 (pre.length : Nat)) := hN.cell 0
  have cl : W.cell? ⟨bl, 0, none⟩ = some (.slice (some ⟨b, o, none⟩) L.length c) := hl.cell 0
  have cq : W.cell? ⟨bq, 0, none⟩ = some (.func (.func gs) #[] sc) := hq.cell 0
  have fo := hO.free 0
  have fn := hN.free 0
  have a1 : bn ≠ bo := hN.ne hO (by decide)
  have a2 : bl ≠ bo := hl.ne hO (by decide)
  have a3 : bl ≠ bn := hl.ne hN (by decide)
  have a4 : bq ≠ bo := hq.ne hO (by decide)
  have a5 : bq ≠ bn := hq.ne hN (by decide)
  have a1' := a1.symm
  suffices h : Calls Try.prog 47 #[.int .i64 x, .pointer (some ⟨bo, 0, none⟩), .pointer (some ⟨bn, 0, none⟩), .pointer (some ⟨bl, 0, none⟩), .pointer (some ⟨bq, 0, none⟩)] W
      (fun e W' => e = .returned (.bool true) ∧ Kb n₀ [bo, bn] W W' ∧ Bk W' bo 4 #[.bool true] ∧ Bk W' bn 3 #[.int .i64 (((pre.length : Nat) : Int) + 1)]) from
    h.mono (fun e W' ⟨h1, h2, h3, h4⟩ => ⟨true, h1, h2, fun _ => ⟨h3, by rw [show (((pre ++ [x]).length : Nat) : Int) = ((pre.length : Nat) : Int) + 1 by simp]; exact h4⟩, fun h => by cases h⟩)
  obtain ⟨p, hpp⟩ : ∃ p, pre.length = p := ⟨_, rfl⟩
  rw [hpp] at hlen cx cn hN ⊢
  clear hpp hx
  have i0 : (0 : Int) ≤ (p : Int) := by omega
  have hw : wrap64 ((p : Int) + 1) = ((p : Int) + 1) := IntWalk.wrap64_in _ (by omega)
  have i1 : (p : Int) < (L.length : Int) := by omega
  have HO := Lib.hid hO
  have HN := Lib.hid hN
  have HL := Lib.hid hl
  have HQ := Lib.hid hq
  have HR := Lib.hid hR
  have HS := Lib.hid hS
  have HE := Lib.hid eg
  have HLL := Lib.hid hL
  have HBB := Lib.hid hB
  have HAA := Lib.hid (hA _ rfl)
  clear hO hN hl hq hR hS hL hcl hp eg hB hA
  go_enter Try.func47, Try.ntmps47
  obtain ⟨z, hz1⟩ : ∃ z, z = (W.setCell ⟨bo, 0, none⟩ (.bool true)).setCell ⟨bn, 0, none⟩ (.int .i64 ((p : Int) + 1)) := ⟨_, rfl⟩
  have s1 : Fr [bo] W (W.setCell ⟨bo, 0, none⟩ (.bool true)) := (Fr.refl _ _).setCell (by simp) _
  have s2 : Fr [bn] (W.setCell ⟨bo, 0, none⟩ (.bool true)) z := by rw [hz1]; exact (Fr.refl _ _).setCell (by simp) _
  have sz : Fr [bo, bn] W z := (s1.mono (by simp)).trans s2 (by simp)
  have ZO : Hid (Bk z bo 4 #[.bool true]) := (HO.out.put 0 (.bool true)).fr s2 (by simpa using a1')
  have ZN : Hid (Bk z bn 3 #[.int .i64 ((p : Int) + 1)]) := by rw [hz1]; exact (HN.out.fr s1 (by simpa using a1)).put 0 (.int .i64 ((p : Int) + 1))
  have ZL : Hid (Bk z bl 22 #[.slice (some ⟨b, o, none⟩) L.length c]) := HL.out.fr sz (by simp [a2, a3])
  have ZS : Hid (Seq Try.prog gs sc L encI B z) := HS.out.sm (Sm.of_fr sz (fun y hy => ⟨HS.out.1 y hy, fun hx => by
    simp only [List.mem_cons, List.not_mem_nil, or_false] at hx
    rcases hx with rfl | rfl
    · exact HBB.out.1 hy
    · exact HBB.out.2 hy⟩))
  have ZR : Hid (RdI z (some ⟨b, o, none⟩) L) := HR.out.fr sz (fun a ha hx => by
    simp only [List.mem_cons, List.not_mem_nil, or_false] at hx
    injection ha with ha
    subst ha
    rcases hx with hx | hx
    · exact HAA.out.1 hx
    · exact HAA.out.2 hx)
  have ZK : Hid (Kb n₀ [bo, bn] W z) := sz.kb (by simp)
  clear s1 s2 sz
  by_cases h3 : p + 1 ≤ 3
  · have h3' : ((p : Int) + 1) ≤ 3 := by omega
    go_wp2_with fail
    rw [← hz1]
    clear hz1
    refine (ints_any gs sc L B 0 (by have := HLL.out; omega) z ZS.out HE.out).mono ?_
    rintro e w4 ⟨v4, rfl, hL4, hf4⟩
    have e4 : stopL L 0 = L := rfl
    rw [e4] at hL4
    obtain ⟨A4, cp4, rfl, _, _⟩ := hL4.look
    have HL4 := Lib.hid hL4
    have HF4 := Lib.hid hf4
    have YO := Lib.hid (ZO.out.fr hf4 (by simp))
    have YN := Lib.hid (ZN.out.fr hf4 (by simp))
    have YL := Lib.hid (ZL.out.fr hf4 (by simp))
    have YR := Lib.hid (ZR.out.fr hf4 (by simp))
    have yo := YO.out.cell 0
    have yl := YL.out.cell 0
    have yfo := YO.out.free 0
    clear hL4 hf4 co cn cl cq fo fn cx
    go_wp2_with fail
    refine (same_yes A4 (some ⟨b, o, none⟩) L _ cp4 c w4 rfl (HL4.out.rdi rfl) YR.out).mono ?_
    rintro e w5 ⟨rfl, hf5⟩
    have XO := Lib.hid (YO.out.fr hf5 (by simp))
    have XN := Lib.hid (YN.out.fr hf5 (by simp))
    have XK : Hid (Kb n₀ [bo, bn] W w5) := (ZK.out.trans (HF4.out.kb (by simp))).trans (hf5.kb (by simp))
    have xo := XO.out.cell 0
    have xfo := XO.out.free 0
    clear hf5 yo yl yfo
    go_wp2_with fail
    go_ret
    have s5 : Fr [bo] w5 (w5.setCell ⟨bo, 0, none⟩ (.bool true)) := (Fr.refl _ _).setCell (by simp) _
    exact ⟨rfl, XK.out.trans (s5.kb (by simp)), XO.out.put 0 (.bool true), XN.out.fr s5 (by simpa using a1)⟩
  · have h3' : ¬ ((p : Int) + 1) ≤ 3 := by omega
    go_wp2_with fail
    rw [← hz1]
    go_ret
    exact ⟨rfl, ZK.out, ZO.out, ZN.out⟩
end Go.Proofs.Ytdjaalkbpdmdgaa
