/-
  Bag: inside (whatfor.go) itself.
-/
import Derived.Test.YtdjaalkbpdmdgaaBg16
namespace Go.Proofs.Ytdjaalkbpdmdgaa
open Go.RowKit Go.Shelf
set_option linter.unusedVariables false

set_option maxRecDepth 100000 in
set_option maxHeartbeats 1600000 in
theorem inside_any (gs : Nat) (sc : Array Value) (A : Option Addr) (n c : Nat) (L : List Int) (B : List Nat) (w : World) (hn : n = L.length) (hL : L.length ≤ 500) (hR : RdI w A L)
    (hS : Seq Try.prog gs sc L encI B w) (eg : ∀ args w, (callFunc gs args).run Try.prog w = .ok (.enter gs args) w) (hA : ∀ a, A = some a → L ≠ [] → a.block < w.heap.size) :
    Calls Try.prog 26 #[.func (.func gs) #[] sc, .slice A n c] w fun e w' => e = .returned (.bool true) ∧ Fr [] w w' := by
  subst hn
  have HR := Lib.hid hR
  have HS := Lib.hid hS
  have HE := Lib.hid eg
  have HL := Lib.hid hL
  have HA := Lib.hid hA
  clear hR hS hL hA
  go_enter Try.func26, Try.ntmps26
  go_wp2_with fail
  obtain ⟨z, hz⟩ : ∃ z, z = (((w.alloc (.cells #[.func (.func gs) #[] sc] 52)).alloc (.cells #[.slice A L.length c] 22)).alloc (.cells #[.int .i64 0] 3)).alloc (.cells #[.bool true] 4) := ⟨_, rfl⟩
  have hf : Fr [] w z := by rw [hz]; exact ((((Fr.refl _ _).alloc _).alloc _).alloc _).alloc _
  have hzs : z.heap.size = w.heap.size + 4 := by rw [hz]; simp
  have ZQ : Hid (Bk z w.heap.size 52 #[.func (.func gs) #[] sc]) := by rw [hz]; exact (((Bk.new _ _ _).alloc _).alloc _).alloc _
  have ZL : Hid (Bk z (w.heap.size + 1) 22 #[.slice A L.length c]) := by rw [hz]; exact ((Bk.new_at _ _ _ _ (by simp)).alloc _).alloc _
  have ZN : Hid (Bk z (w.heap.size + 1 + 1) 3 #[.int .i64 0]) := by rw [hz]; exact (Bk.new_at _ _ _ _ (by simp)).alloc _
  have ZO : Hid (Bk z (w.heap.size + 1 + 1 + 1) 4 #[.bool true]) := by rw [hz]; exact Bk.new_at _ _ _ _ (by simp)
  have hB1 := HS.out.1
  have ZS : Hid (Seq Try.prog gs sc L encI B z) := HS.out.sm (Sm.of_fr hf (fun x hx => ⟨hB1 x hx, by simp⟩))
  have ZR : Hid (RdI z A L) := HR.out.fr hf (by simp)
  have ZF : Hid (Fr [] w z) := hf
  have HBB : Hid (∀ x ∈ B, x < w.heap.size) := hB1
  rw [← hz]
  clear hz hf hB1 HS HR
  refine (ZS.out.hand 47 #[.pointer (some ⟨w.heap.size + 1 + 1 + 1, 0, none⟩), .pointer (some ⟨w.heap.size + 1 + 1, 0, none⟩), .pointer (some ⟨w.heap.size + 1, 0, none⟩), .pointer (some ⟨w.heap.size, 0, none⟩)] (enters_of Try.func47 (by kernel_rfl) rfl)
    [w.heap.size + 1 + 1 + 1, w.heap.size + 1 + 1] (by simp; omega) (fun _ => InU (w.heap.size + 1 + 1 + 1) (w.heap.size + 1 + 1)) (fun _ _ _ => False) (fun _ _ _ o h => ⟨h.1.alloc o, h.2.alloc o⟩)
    (fun n₀ W h1 h2 h3 => ⟨ZO.out.fr h3 (by simp), ZN.out.fr h3 (by simp)⟩)
    (fun n₀ pre x W h1 h2 h3 h4 h5 => inside1 n₀ (w.heap.size + 1 + 1 + 1) (w.heap.size + 1 + 1) (w.heap.size + 1) w.heap.size gs sc A L.length c L B pre x W h5 (h4.bk ZL.out (by omega) (by simp)) (h4.bk ZQ.out (by omega) (by simp; omega)) rfl HL.out
      ⟨ZR.out.1, fun h0 => by
        obtain ⟨b, o, e1, e2, e3⟩ := ZR.out.2 h0
        have hbb := HA.out _ e1 (List.length_pos_iff.1 h0)
        have hbb : b < w.heap.size := hbb
        exact ⟨b, o, e1, Nat.lt_of_lt_of_le e2 h4.size, fun i y hy => (World.cell?_of_block (h4.block b (by omega) e2 (by simp; omega))).trans (e3 i y hy)⟩⟩
      (ZS.out.sm (Sm.of_kb h4 (fun y hy => by have := HBB.out y hy; refine ⟨by omega, by omega, ?_⟩; simp; omega))) HE.out h3 ⟨fun h => by have := HBB.out _ h; omega, fun h => by have := HBB.out _ h; omega⟩ (fun a ha => by have := HA.out a ha (fun e => by rw [e] at h3; exact absurd h3.length_le (by simp)); omega) h2)).mono ?_
  rintro e w3 ⟨rfl, hf3, n₀, hn1, hn2, hu⟩
  rcases hu with ⟨hO, hN⟩ | ⟨_, _, h⟩
  · have YO := hO.cell 0
    have YN := hN.cell 0
    have YL := (ZL.out.fr hf3 (by simp)).cell 0
    have YF : Hid (Fr [] w w3) := ZF.out.trans hf3 (by simp; omega)
    clear hO hN hf3
    go_wp2_with fail
    go_ret
    exact ⟨rfl, YF.out⟩
  · exact h.elim
end Go.Proofs.Ytdjaalkbpdmdgaa
