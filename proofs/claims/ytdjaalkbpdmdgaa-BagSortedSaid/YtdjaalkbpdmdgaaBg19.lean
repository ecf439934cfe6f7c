/-
  Bag: tabled (whatfor.go) itself.
-/
import Derived.Test.YtdjaalkbpdmdgaaBg18
namespace Go.Proofs.Ytdjaalkbpdmdgaa
open Go.RowKit Go.Shelf
set_option linter.unusedVariables false

set_option maxRecDepth 100000 in
set_option maxHeartbeats 1600000 in
theorem tabled_any (b0 g m : Nat) (v : Value) (hm : m ≤ 500) (w : World) (hT : TbN b0 w g v (rowsN 3 m)) :
    Calls Try.prog 29 #[.pointer (some ⟨g, 0, none⟩), .int .i64 (m : Nat)] w fun e w' => e = .returned (.bool true) ∧ Fr [] w w' := by
  have HT := Lib.hid hT
  clear hT
  go_enter Try.func29, Try.ntmps29
  go_wp2_with fail
  refine (table_all g _).mono ?_
  rintro e w1 ⟨rfl, rfl⟩
  go_wp2_with fail
  obtain ⟨z, hz⟩ : ∃ z, z = ((((w.alloc (.cells #[.int .i64 (m : Nat)] 3)).alloc (.cells #[.int .i64 0] 3)).alloc (.cells #[.bool true] 4)).alloc (.cells #[.pointer (some ⟨g, 0, none⟩)] 38)).alloc
      (.cells #[.func (.func 42) #[] #[.pointer (some ⟨w.heap.size + 1 + 1 + 1, 0, none⟩)]] 44) := ⟨_, rfl⟩
  have hf : Fr [] w z := by rw [hz]; exact (((((Fr.refl _ _).alloc _).alloc _).alloc _).alloc _).alloc _
  have hzs : z.heap.size = w.heap.size + 5 := by rw [hz]; simp
  have ZSS : Hid (Bk z w.heap.size 3 #[.int .i64 (m : Nat)]) := by rw [hz]; exact ((((Bk.new _ _ _).alloc _).alloc _).alloc _).alloc _
  have ZN : Hid (Bk z (w.heap.size + 1) 3 #[.int .i64 0]) := by rw [hz]; exact (((Bk.new_at _ _ _ _ (by simp)).alloc _).alloc _).alloc _
  have ZO : Hid (Bk z (w.heap.size + 1 + 1) 4 #[.bool true]) := by rw [hz]; exact ((Bk.new_at _ _ _ _ (by simp)).alloc _).alloc _
  have hC : Bk z (w.heap.size + 1 + 1 + 1) 38 #[.pointer (some ⟨g, 0, none⟩)] := by rw [hz]; exact (Bk.new_at _ _ _ _ (by simp)).alloc _
  have ZQ : Hid (Bk z (w.heap.size + 1 + 1 + 1 + 1) 44 #[.func (.func 42) #[] #[.pointer (some ⟨w.heap.size + 1 + 1 + 1, 0, none⟩)]]) := by rw [hz]; exact Bk.new_at _ _ _ _ (by simp)
  have hBl : ∀ x ∈ skT g v, x < w.heap.size := HT.out.lt
  have ZS : Hid (Seq Try.prog 42 #[.pointer (some ⟨w.heap.size + 1 + 1 + 1, 0, none⟩)] (rowsN 3 m) encN ((w.heap.size + 1 + 1 + 1) :: skT g v) z) :=
    table_seq b0 g (w.heap.size + 1 + 1 + 1) v (rowsN 3 m) (by rw [rowsN_length]; omega) z (HT.out.fr hf (by simp) (by simp)) hC
  have ZF := Lib.hid hf
  have HBL : Hid (∀ x ∈ (w.heap.size + 1 + 1 + 1) :: skT g v, x < w.heap.size ∨ x = w.heap.size + 1 + 1 + 1) := fun x hx => by
    rcases List.mem_cons.1 hx with h | h
    · exact .inr h
    · exact .inl (hBl x h)
  rw [← hz]
  clear hz hf hC HT hBl
  refine (ZS.out.hand 56 #[.pointer (some ⟨w.heap.size + 1 + 1, 0, none⟩), .pointer (some ⟨w.heap.size + 1, 0, none⟩), .pointer (some ⟨w.heap.size + 1 + 1 + 1 + 1, 0, none⟩), .pointer (some ⟨w.heap.size, 0, none⟩)] (enters_of Try.func56 (by kernel_rfl) rfl)
    [w.heap.size + 1 + 1, w.heap.size + 1] (by simp; omega) (fun _ => TU (w.heap.size + 1 + 1) (w.heap.size + 1)) (fun _ _ _ => False) (fun _ _ _ o h => ⟨h.1.alloc o, h.2.alloc o⟩)
    (fun n₀ W h1 h2 h3 => ⟨ZO.out.fr h3 (by simp), ZN.out.fr h3 (by simp)⟩)
    (fun n₀ pre x W h1 h2 h3 h4 h5 => tabled1 n₀ (w.heap.size + 1 + 1) (w.heap.size + 1) (w.heap.size + 1 + 1 + 1 + 1) w.heap.size 42 m #[.pointer (some ⟨w.heap.size + 1 + 1 + 1, 0, none⟩)] ((w.heap.size + 1 + 1 + 1) :: skT g v) hm pre x W h5 h3
      (h4.bk ZQ.out (by omega) (by simp; omega)) (h4.bk ZSS.out (by omega) (by simp; omega)) (by omega)
      (ZS.out.sm (Sm.of_kb h4 (fun y hy => by have := HBL.out y hy; refine ⟨by omega, by omega, ?_⟩; simp; omega))) (enters_of Try.func42 (by kernel_rfl) rfl)
      ⟨fun h => by have := HBL.out _ h; omega, fun h => by have := HBL.out _ h; omega⟩ h2)).mono ?_
  rintro e w3 ⟨rfl, hf3, n₁, hn1, hn2, hu⟩
  rcases hu with ⟨hO, hM⟩ | ⟨_, _, h⟩
  · rw [rowsN_length] at hM
    have co := hO.cell 0
    have cm := hM.cell 0
    have cs := (ZSS.out.fr hf3 (by simp; omega)).cell 0
    have YF : Hid (Fr [] w w3) := ZF.out.trans hf3 (by simp; omega)
    clear hO hM hf3
    go_wp2_with fail
    go_ret
    exact ⟨rfl, YF.out⟩
  · exact h.elim
end Go.Proofs.Ytdjaalkbpdmdgaa
