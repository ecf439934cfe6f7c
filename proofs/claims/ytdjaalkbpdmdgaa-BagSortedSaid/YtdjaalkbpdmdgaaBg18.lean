/-
  Bag: tabled (whatfor.go): a table gone through within itself.
-/
import Derived.Test.YtdjaalkbpdmdgaaBg17
import Derived.Laws.Bits64
namespace Go.Proofs.Ytdjaalkbpdmdgaa
open Go.RowKit Go.Shelf
set_option linter.unusedVariables false

/-- The table of the keys 0 to m - 1 at the values d, d + 1, .. -/
def rowsN (d : Nat) (m : Nat) : List PN := (List.range m).map (fun i => (((i : Nat) : Int), ((i + d : Nat) : Int)))
theorem rowsN_length (d m : Nat) : (rowsN d m).length = m := by simp [rowsN]
theorem rowsN_next {d m : Nat} {pre : List PN} {x : PN} (hp : pre ++ [x] <+: rowsN d m) : pre.length < m ∧ x = (((pre.length : Nat) : Int), ((pre.length + d : Nat) : Int)) := by
  have h1 := hp.length_le
  rw [rowsN_length] at h1
  simp at h1
  obtain ⟨r, hr⟩ := hp
  have h2 : (rowsN d m)[pre.length]? = some x := by
    rw [← hr, List.append_assoc, List.getElem?_append_right (Nat.le_refl _)]
    simp
  unfold rowsN at h2
  rw [List.getElem?_map, List.getElem?_range (by omega)] at h2
  injection h2 with h2
  exact ⟨by omega, h2.symm⟩

def TU (bo bm : Nat) (pre : List PN) (W : World) : Prop := Bk W bo 4 #[.bool true] ∧ Bk W bm 3 #[.int .i64 (pre.length : Nat)]

set_option maxRecDepth 100000 in
set_option maxHeartbeats 1600000 in
theorem tabled11 (n₀ bo bm m : Nat) (hm : m ≤ 500) (pre : List PN) (x : PN) (W : World) (h0 : TU bo bm pre W) (hp : pre ++ [x] <+: rowsN 3 m) :
    Calls Try.prog 57 #[kN x.1, vN x.2, .pointer (some ⟨bo, 0, none⟩), .pointer (some ⟨bm, 0, none⟩)] W (Usr n₀ [bo, bm] (TU bo bm) (fun _ _ => False) pre x W) := by
  obtain ⟨hO, hN⟩ := h0
  obtain ⟨hlen, rfl⟩ := rowsN_next hp
  suffices h : Calls Try.prog 57 #[.int .i64 ((pre.length : Nat) : Int), .int .u64 ((pre.length + 3 : Nat) : Int), .pointer (some ⟨bo, 0, none⟩), .pointer (some ⟨bm, 0, none⟩)] W
      (fun e W' => e = .returned (.bool true) ∧ Kb n₀ [bo, bm] W W' ∧ Bk W' bo 4 #[.bool true] ∧ Bk W' bm 3 #[.int .i64 (((pre.length : Nat) : Int) + 1)]) from
    h.mono (fun e W' ⟨h1, h2, h3, h4⟩ => ⟨true, h1, h2, fun _ => ⟨h3, by rw [show ∀ x : PN, (((pre ++ [x]).length : Nat) : Int) = ((pre.length : Nat) : Int) + 1 by simp]; exact h4⟩, fun h => by cases h⟩)
  clear hp
  obtain ⟨p, hpp⟩ : ∃ p, pre.length = p := ⟨_, rfl⟩
  rw [hpp] at hlen hN ⊢
  clear hpp
  have co := hO.cell 0
  have cn := hN.cell 0
  have fo := hO.free 0
  have fn := hN.free 0
  have a1 : bm ≠ bo := hN.ne hO (by decide)
  have a1' := a1.symm
  have hw : wrap64 ((p : Int) + 1) = (p : Int) + 1 := IntWalk.wrap64_in _ (by omega)
  have hu : IntKind.u64.wrap (p : Int) = (p : Int) := by rw [IntKind.wrap_u64]; omega
  have hu3 : IntKind.u64.wrap ((p : Int) + 3) = ((p : Int) + 3) := by rw [IntKind.wrap_u64]; omega
  have HO := Lib.hid hO
  have HN := Lib.hid hN
  clear hO hN
  go_enter Try.func57, Try.ntmps57
  go_wp2_with fail
  go_ret
  have s1 : Fr [bo] W (W.setCell ⟨bo, 0, none⟩ (.bool true)) := (Fr.refl _ _).setCell (by simp) _
  have s2 : Fr [bm] (W.setCell ⟨bo, 0, none⟩ (.bool true)) ((W.setCell ⟨bo, 0, none⟩ (.bool true)).setCell ⟨bm, 0, none⟩ (.int .i64 ((p : Int) + 1))) := (Fr.refl _ _).setCell (by simp) _
  exact ⟨rfl, (s1.kb (by simp)).trans (s2.kb (by simp)), (HO.out.put 0 (.bool true)).fr s2 (by simpa using a1'), (HN.out.fr s1 (by simpa using a1)).put 0 (.int .i64 ((p : Int) + 1))⟩

set_option maxRecDepth 100000 in
set_option maxHeartbeats 1600000 in
theorem tabled1 (n₀ bo bn bq bs gs m : Nat) (sc : Array Value) (B : List Nat) (hm : m ≤ 500) (pre : List PN) (x : PN) (W : World) (h0 : TU bo bn pre W) (hp : pre ++ [x] <+: rowsN 3 m)
    (hq : Bk W bq 44 #[.func (.func gs) #[] sc]) (hs : Bk W bs 3 #[.int .i64 (m : Nat)]) (hns : bs ≠ bn)
    (hS : Seq Try.prog gs sc (rowsN 3 m) encN B W) (eg : ∀ args w, (callFunc gs args).run Try.prog w = .ok (.enter gs args) w) (hB : bo ∉ B ∧ bn ∉ B) (hz : n₀ ≤ W.heap.size) :
    Calls Try.prog 56 #[kN x.1, vN x.2, .pointer (some ⟨bo, 0, none⟩), .pointer (some ⟨bn, 0, none⟩), .pointer (some ⟨bq, 0, none⟩), .pointer (some ⟨bs, 0, none⟩)] W (Usr n₀ [bo, bn] (TU bo bn) (fun _ _ => False) pre x W) := by
  obtain ⟨hO, hN⟩ := h0
  obtain ⟨hlen, rfl⟩ := rowsN_next hp
  suffices h : Calls Try.prog 56 #[.int .i64 ((pre.length : Nat) : Int), .int .u64 ((pre.length + 3 : Nat) : Int), .pointer (some ⟨bo, 0, none⟩), .pointer (some ⟨bn, 0, none⟩), .pointer (some ⟨bq, 0, none⟩), .pointer (some ⟨bs, 0, none⟩)] W
      (fun e W' => e = .returned (.bool true) ∧ Kb n₀ [bo, bn] W W' ∧ Bk W' bo 4 #[.bool true] ∧ Bk W' bn 3 #[.int .i64 (((pre.length : Nat) : Int) + 1)]) from
    h.mono (fun e W' ⟨h1, h2, h3, h4⟩ => ⟨true, h1, h2, fun _ => ⟨h3, by rw [show ∀ x : PN, (((pre ++ [x]).length : Nat) : Int) = ((pre.length : Nat) : Int) + 1 by simp]; exact h4⟩, fun h => by cases h⟩)
  clear hp
  obtain ⟨p, hpp⟩ : ∃ p, pre.length = p := ⟨_, rfl⟩
  rw [hpp] at hlen hN ⊢
  clear hpp
  have co := hO.cell 0
  have cn := hN.cell 0
  have cq := hq.cell 0
  have cs := hs.cell 0
  have fo := hO.free 0
  have fn := hN.free 0
  have a1 : bn ≠ bo := hN.ne hO (by decide)
  have a1' := a1.symm
  have a2 : bq ≠ bo := hq.ne hO (by decide)
  have a3 : bq ≠ bn := hq.ne hN (by decide)
  have a4 : bs ≠ bo := hs.ne hO (by decide)
  have hw : wrap64 ((p : Int) + 1) = (p : Int) + 1 := IntWalk.wrap64_in _ (by omega)
  have hu : IntKind.u64.wrap (p : Int) = (p : Int) := by rw [IntKind.wrap_u64]; omega
  have hu3 : IntKind.u64.wrap ((p : Int) + 3) = ((p : Int) + 3) := by rw [IntKind.wrap_u64]; omega
  have HO := Lib.hid hO
  have HN := Lib.hid hN
  have HQ := Lib.hid hq
  have HSS := Lib.hid hs
  have HS := Lib.hid hS
  have HE := Lib.hid eg
  have HBB := Lib.hid hB
  clear hO hN hq hs hS eg hB
  obtain ⟨z, hz1⟩ : ∃ z, z = (W.setCell ⟨bo, 0, none⟩ (.bool true)).setCell ⟨bn, 0, none⟩ (.int .i64 ((p : Int) + 1)) := ⟨_, rfl⟩
  have s1 : Fr [bo] W (W.setCell ⟨bo, 0, none⟩ (.bool true)) := (Fr.refl _ _).setCell (by simp) _
  have s2 : Fr [bn] (W.setCell ⟨bo, 0, none⟩ (.bool true)) z := by rw [hz1]; exact (Fr.refl _ _).setCell (by simp) _
  have sz : Fr [bo, bn] W z := (s1.mono (by simp)).trans s2 (by simp)
  have ZO : Hid (Bk z bo 4 #[.bool true]) := (HO.out.put 0 (.bool true)).fr s2 (by simpa using a1')
  have ZN : Hid (Bk z bn 3 #[.int .i64 ((p : Int) + 1)]) := by rw [hz1]; exact (HN.out.fr s1 (by simpa using a1)).put 0 (.int .i64 ((p : Int) + 1))
  have ZQ : Hid (Bk z bq 44 #[.func (.func gs) #[] sc]) := HQ.out.fr sz (by simp [a2, a3])
  have ZSS : Hid (Bk z bs 3 #[.int .i64 (m : Nat)]) := HSS.out.fr sz (by simp [a4, hns])
  have ZS : Hid (Seq Try.prog gs sc (rowsN 3 m) encN B z) := HS.out.sm (Sm.of_fr sz (fun y hy => ⟨HS.out.1 y hy, fun hx => by
    simp only [List.mem_cons, List.not_mem_nil, or_false] at hx
    rcases hx with rfl | rfl
    · exact HBB.out.1 hy
    · exact HBB.out.2 hy⟩))
  have ZK : Hid (Kb n₀ [bo, bn] W z) := sz.kb (by simp)
  have hzn : n₀ ≤ z.heap.size := by have := sz.size; omega
  have HZF := Lib.hid sz
  clear s1 s2 sz
  by_cases h3 : p + 1 ≤ 3
  · have h3' : ((p : Int) + 1) ≤ 3 := by omega
    have hb1 := HQ.out.lt
    have hb2 := HSS.out.lt
    have hb3 := HO.out.lt
    have hb4 := HN.out.lt
    go_enter Try.func56, Try.ntmps56
    go_upto_region 5 with fail
    rw [← hz1]
    have hzw : z.heap.size = W.heap.size := by rw [hz1]; simp
    obtain ⟨y, hy⟩ : ∃ y, y = z.alloc (.cells #[.int .i64 0] 3) := ⟨_, rfl⟩
    have hfy : Fr [] z y := by rw [hy]; exact (Fr.refl _ _).alloc _
    have hys : y.heap.size = W.heap.size + 1 := by rw [hy]; simp; omega
    have YM : Hid (Bk y W.heap.size 3 #[.int .i64 0]) := by rw [hy]; exact Bk.new_at _ _ _ _ hzw
    have YO := Lib.hid (ZO.out.fr hfy (by simp))
    have YN := Lib.hid (ZN.out.fr hfy (by simp))
    have YQ := Lib.hid (ZQ.out.fr hfy (by simp))
    have YSS := Lib.hid (ZSS.out.fr hfy (by simp))
    have hB1 := ZS.out.1
    have YS : Hid (Seq Try.prog gs sc (rowsN 3 m) encN B y) := ZS.out.sm (Sm.of_fr hfy (fun x hx => ⟨hB1 x hx, by simp⟩))
    have YK : Hid (Kb n₀ [bo, bn] W y) := ZK.out.trans (hfy.kb (by simp))
    have yq := YQ.out.cell 0
    have eg := HE.out
    rw [← hy]
    clear hz1 hy hfy hB1 co cn cq cs fo fn
    go_wp2_with fail
    refine (YS.out.hand 57 #[.pointer (some ⟨bo, 0, none⟩), .pointer (some ⟨W.heap.size, 0, none⟩)] (enters_of Try.func57 (by kernel_rfl) rfl)
      [bo, W.heap.size] (by simp; omega) (fun _ => TU bo W.heap.size) (fun _ _ _ => False) (fun _ _ _ o h => ⟨h.1.alloc o, h.2.alloc o⟩)
      (fun n₀ W h1 h2 h3 => ⟨YO.out.fr h3 (by simp), YM.out.fr h3 (by simp)⟩)
      (fun n₁ pre x W1 h1 h2 h3 h4 h5 => tabled11 n₁ bo W.heap.size m hm pre x W1 h5 h3)).mono ?_
    rintro e w3 ⟨rfl, hf3, n₁, hn1, hn2, hu⟩
    rcases hu with ⟨hO, hM⟩ | ⟨_, _, h⟩
    · rw [rowsN_length] at hM
      have XO := Lib.hid hO
      have XN := Lib.hid (YN.out.fr hf3 (by simp; omega))
      have XK : Hid (Kb n₀ [bo, bn] W w3) := YK.out.trans (hf3.kb (by simp; omega))
      have cm := hM.cell 0
      have cs := (YSS.out.fr hf3 (by simp; omega)).cell 0
      have co := hO.cell 0
      have fo := hO.free 0
      clear hO hM hf3 yq
      go_wp2_with fail
      go_ret
      have s5 : Fr [bo] w3 (w3.setCell ⟨bo, 0, none⟩ (.bool true)) := (Fr.refl _ _).setCell (by simp) _
      exact ⟨rfl, XK.out.trans (s5.kb (by simp)), XO.out.put 0 (.bool true), XN.out.fr s5 (by simpa using a1)⟩
    · exact h.elim
  · have h3' : ¬ ((p : Int) + 1) ≤ 3 := by omega
    go_enter Try.func56, Try.ntmps56
    go_wp2_with fail
    rw [← hz1]
    go_ret
    exact ⟨rfl, ZK.out, ZO.out, ZN.out⟩
end Go.Proofs.Ytdjaalkbpdmdgaa
