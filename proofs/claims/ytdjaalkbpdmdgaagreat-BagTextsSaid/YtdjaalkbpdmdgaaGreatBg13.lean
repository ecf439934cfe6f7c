/-
  Bag: All, and what it gives, with a caller's own function.
-/
import Derived.Test.YtdjaalkbpdmdgaaGreatBg12
namespace Go.Proofs.YtdjaalkbpdmdgaaGreat
open Go.RowKit Go.Shelf
set_option linter.unusedVariables false

def AllOk {α : Type} (w : World) (T : List Nat) (U Ux : Nat → List α → World → Prop) (L : List α) (e : Ending) (W' : World) : Prop :=
  e = .returned (.tuple #[]) ∧ Fr T w W' ∧ ∃ n₀, w.heap.size ≤ n₀ ∧ n₀ ≤ W'.heap.size ∧ (U n₀ L W' ∨ ∃ pre, pre <+: L ∧ Ux n₀ pre W')

theorem below_fr {z W : World} (h : Below z.heap.size z W) : Fr [] z W := ⟨h.os, h.tape, h.output, h.size, fun k hk _ => h.block k hk⟩

theorem stack_all (g : Nat) (w : World) :
    Calls Tryz.prog 36 #[.pointer (some ⟨g, 0, none⟩)] w fun e w' => e = .returned (.func (.func 79) #[] #[.pointer (some ⟨w.heap.size, 0, none⟩)]) ∧ w' = w.alloc (.cells #[.pointer (some ⟨g, 0, none⟩)] 33) := by
  go_enter Tryz.func36, Tryz.ntmps36
  go_wp2_with fail
  go_ret
  exact ⟨rfl, rfl⟩

theorem stack_hands (b0 g : Nat) (most : Int) (v : Value) (l : List Int) (hl : l.length ≤ 1000000) (w z : World) (hS : Sk 121 b0 w g most v l) (hf : Fr [] w z) :
    Hands Fence.wide 5 Tryz.prog 82 #[.pointer (some ⟨g, 0, none⟩)] (fun x : Int => #[.int .i64 x]) (Kb w.heap.size []) (fun xs => xs = l.reverse) 1000001 z := by
  intro lp J W hB hJ hY h0
  have hSW : Sk 121 b0 W g most v l := hS.fr (hf.trans (below_fr hB) (by simp)) (by simp) (by simp)
  exact stackEach_in 5 (by omega) lp b0 g w.heap.size 1000001 [] most v l (by omega) (by omega) ⟨hS.B.lt, by simp⟩ (fun k hk => ⟨(hS.L.lt k hk).2, by simp⟩) J hY W hSW h0

set_option maxRecDepth 100000 in
set_option maxHeartbeats 1600000 in
theorem stack_all1 (b0 g : Nat) (most : Int) (v : Value) (l : List Int) (hl : l.length ≤ 1000000) (w : World) (hS : Sk 121 b0 w g most v l) (bm gy : Nat) (caps : Array Value) (c0 : w.cell? ⟨bm, 0, none⟩ = some (.pointer (some ⟨g, 0, none⟩)))
    (eg : ∀ args w, (callFunc gy args).run Tryz.prog w = .ok (.enter gy args) w) (T : List Nat) (hT : ∀ x ∈ T, x < w.heap.size) (U Ux : Nat → List Int → World → Prop)
    (hU0 : ∀ n₀ W, w.heap.size ≤ n₀ → n₀ = W.heap.size → Fr [] w W → U n₀ [] W)
    (hY : ∀ n₀ pre (x : Int) W, w.heap.size ≤ n₀ → n₀ ≤ W.heap.size → pre ++ [x] <+: l.reverse → Kb n₀ T w W → U n₀ pre W → Calls Tryz.prog gy (#[.int .i64 x] ++ caps) W (Usr n₀ T (U n₀) (Ux n₀) pre x W)) :
    Calls Tryz.prog 79 #[.func (.func gy) #[] caps, .pointer (some ⟨bm, 0, none⟩)] w (AllOk w T U Ux (l.reverse)) := by
  have HS := Lib.hid hS
  have HL := Lib.hid hl
  have HT := Lib.hid hT
  have HU0 := Lib.hid hU0
  have HY := Lib.hid hY
  have hbl := block_lt_of_cell c0
  have HEG := Lib.hid eg
  clear hS hl hT hU0 hY eg
  go_enter Tryz.func79, Tryz.ntmps79
  go_wp2_with fail
  refine (gatherI 82 #[.pointer (some ⟨g, 0, none⟩)] (l.reverse) w (enters_of Tryz.func82 (by kernel_rfl) rfl) (fun z hz => stack_hands b0 g most v l HL.out w z HS.out hz)).mono ?_
  rintro e w1 ⟨vl, rfl, hL1, hf1⟩
  have HL1 := Lib.hid hL1
  have HF1 := Lib.hid hf1
  clear hL1 hf1
  go_wp2_with fail
  refine (giveI gy caps w.heap.size w1.heap.size T vl (l.reverse) (by have := HL.out; simp; omega) HEG.out (fun k hk => ⟨(HL1.out.lt k hk).2, fun hx => by have := (HL1.out.lt k hk).1; have := HT.out k hx; omega⟩) (U w1.heap.size) (Ux w1.heap.size) w1
    (fun pre x W1 h1 h2 h3 => HY.out w1.heap.size pre x W1 HF1.out.size h2.size h1 ((HF1.out.kb (by simp)).trans h2) h3) HL1.out (HU0.out w1.heap.size w1 HF1.out.size rfl HF1.out)).mono ?_
  rintro e w2 ⟨rfl, hk2, hu2⟩
  have HK2 := Lib.hid hk2
  have HU2 := Lib.hid hu2
  clear hk2 hu2
  go_wp2_with fail
  go_end0
  exact ⟨rfl, (((HF1.out.kb (n₀ := w1.heap.size) (by simp)).trans HK2.out).mono HF1.out.size).fr, w1.heap.size, HF1.out.size, HK2.out.size, HU2.out⟩

theorem queue_all (g : Nat) (w : World) :
    Calls Tryz.prog 45 #[.pointer (some ⟨g, 0, none⟩)] w fun e w' => e = .returned (.func (.func 83) #[] #[.pointer (some ⟨w.heap.size, 0, none⟩)]) ∧ w' = w.alloc (.cells #[.pointer (some ⟨g, 0, none⟩)] 35) := by
  go_enter Tryz.func45, Tryz.ntmps45
  go_wp2_with fail
  go_ret
  exact ⟨rfl, rfl⟩

theorem queue_hands (b0 g : Nat) (most : Int) (v : Value) (l : List Int) (hl : l.length ≤ 1000000) (w z : World) (hS : Sk 122 b0 w g most v l) (hf : Fr [] w z) :
    Hands Fence.wide 5 Tryz.prog 84 #[.pointer (some ⟨g, 0, none⟩)] (fun x : Int => #[.int .i64 x]) (Kb w.heap.size []) (fun xs => xs = l) 1000001 z := by
  intro lp J W hB hJ hY h0
  have hSW : Sk 122 b0 W g most v l := hS.fr (hf.trans (below_fr hB) (by simp)) (by simp) (by simp)
  exact queueEach_in 5 (by omega) lp b0 g w.heap.size 1000001 [] most v l (by omega) (by omega) (fun k hk => ⟨(hS.L.lt k hk).2, by simp⟩) J hY W hSW h0

set_option maxRecDepth 100000 in
set_option maxHeartbeats 1600000 in
theorem queue_all1 (b0 g : Nat) (most : Int) (v : Value) (l : List Int) (hl : l.length ≤ 1000000) (w : World) (hS : Sk 122 b0 w g most v l) (bm gy : Nat) (caps : Array Value) (c0 : w.cell? ⟨bm, 0, none⟩ = some (.pointer (some ⟨g, 0, none⟩)))
    (eg : ∀ args w, (callFunc gy args).run Tryz.prog w = .ok (.enter gy args) w) (T : List Nat) (hT : ∀ x ∈ T, x < w.heap.size) (U Ux : Nat → List Int → World → Prop)
    (hU0 : ∀ n₀ W, w.heap.size ≤ n₀ → n₀ = W.heap.size → Fr [] w W → U n₀ [] W)
    (hY : ∀ n₀ pre (x : Int) W, w.heap.size ≤ n₀ → n₀ ≤ W.heap.size → pre ++ [x] <+: l → Kb n₀ T w W → U n₀ pre W → Calls Tryz.prog gy (#[.int .i64 x] ++ caps) W (Usr n₀ T (U n₀) (Ux n₀) pre x W)) :
    Calls Tryz.prog 83 #[.func (.func gy) #[] caps, .pointer (some ⟨bm, 0, none⟩)] w (AllOk w T U Ux (l)) := by
  have HS := Lib.hid hS
  have HL := Lib.hid hl
  have HT := Lib.hid hT
  have HU0 := Lib.hid hU0
  have HY := Lib.hid hY
  have hbl := block_lt_of_cell c0
  have HEG := Lib.hid eg
  clear hS hl hT hU0 hY eg
  go_enter Tryz.func83, Tryz.ntmps83
  go_wp2_with fail
  refine (gatherI 84 #[.pointer (some ⟨g, 0, none⟩)] (l) w (enters_of Tryz.func84 (by kernel_rfl) rfl) (fun z hz => queue_hands b0 g most v l HL.out w z HS.out hz)).mono ?_
  rintro e w1 ⟨vl, rfl, hL1, hf1⟩
  have HL1 := Lib.hid hL1
  have HF1 := Lib.hid hf1
  clear hL1 hf1
  go_wp2_with fail
  refine (giveI gy caps w.heap.size w1.heap.size T vl (l) (by have := HL.out; simp; omega) HEG.out (fun k hk => ⟨(HL1.out.lt k hk).2, fun hx => by have := (HL1.out.lt k hk).1; have := HT.out k hx; omega⟩) (U w1.heap.size) (Ux w1.heap.size) w1
    (fun pre x W1 h1 h2 h3 => HY.out w1.heap.size pre x W1 HF1.out.size h2.size h1 ((HF1.out.kb (by simp)).trans h2) h3) HL1.out (HU0.out w1.heap.size w1 HF1.out.size rfl HF1.out)).mono ?_
  rintro e w2 ⟨rfl, hk2, hu2⟩
  have HK2 := Lib.hid hk2
  have HU2 := Lib.hid hu2
  clear hk2 hu2
  go_wp2_with fail
  go_end0
  exact ⟨rfl, (((HF1.out.kb (n₀ := w1.heap.size) (by simp)).trans HK2.out).mono HF1.out.size).fr, w1.heap.size, HF1.out.size, HK2.out.size, HU2.out⟩

set_option maxRecDepth 100000 in
set_option maxHeartbeats 1600000 in
theorem table_all11 (n₀ : Nat) (T : List Nat) (U Ux : List PN → World → Prop) (pre : List PN) (gy : Nat) (caps : Array Value) (bx : Nat) (k v : Int) (w : World) (hX : w.cell? ⟨bx, 0, none⟩ = some (.func (.func gy) #[] caps))
    (eg : ∀ args w, (callFunc gy args).run Tryz.prog w = .ok (.enter gy args) w)
    (hY : ∀ o, Calls Tryz.prog gy (#[kN k, vN v] ++ caps) (w.alloc o) (Usr n₀ T U Ux pre (k, v) (w.alloc o))) :
    Calls Tryz.prog 105 #[.agg #[kN k, vN v], .pointer (some ⟨bx, 0, none⟩)] w (Usr n₀ T U Ux pre (k, v) w) := by
  have HY := Lib.hid hY
  clear hY
  have hbl := block_lt_of_cell hX
  have hx2 : ∀ o, (w.alloc o).cell? ⟨bx, 0, none⟩ = some (.func (.func gy) #[] caps) := fun o => (World.cell?_of_block (((Fr.refl [] w).alloc o).block bx hbl (by simp))).trans hX
  unfold kN vN at *
  go_enter Tryz.func105, Tryz.ntmps105
  go_wp2_with fail
  refine (Calls.mono (HY.out _) ?_)
  rintro e w2 ⟨b, rfl, hk2, h1, h2⟩
  have HK2 := Lib.hid hk2
  have H1 := Lib.hid (And.intro h1 h2)
  clear hk2 h1 h2
  go_wp2_with fail
  go_ret
  exact ⟨b, rfl, (((Fr.refl [] w).alloc _).kb (by simp)).trans HK2.out, H1.out⟩

theorem table_all (g : Nat) (w : World) :
    Calls Tryz.prog 92 #[.pointer (some ⟨g, 0, none⟩)] w fun e w' => e = .returned (.func (.func 101) #[] #[.pointer (some ⟨w.heap.size, 0, none⟩)]) ∧ w' = w.alloc (.cells #[.pointer (some ⟨g, 0, none⟩)] 39) := by
  go_enter Tryz.func92, Tryz.ntmps92
  go_wp2_with fail
  go_ret
  exact ⟨rfl, rfl⟩

theorem table_hands (b0 g : Nat) (v : Value) (l : List PN) (hl : l.length ≤ 1000000) (w z : World) (hS : TbN b0 w g v l) (hf : Fr [] w z) :
    Hands Fence.wide 5 Tryz.prog 104 #[.pointer (some ⟨g, 0, none⟩)] (fun x : PN => #[.agg #[kN x.1, vN x.2]]) (Kb w.heap.size []) (fun xs => xs = l) 1000001 z := by
  intro lp J W hB hJ hY h0
  have hSW : TbN b0 W g v l := hS.fr (hf.trans (below_fr hB) (by simp)) (by simp) (by simp)
  exact tableEach_in 5 (by omega) lp b0 g w.heap.size 1000001 [] v l (by omega) (by omega) (fun k hk => ⟨(hS.L.lt k hk).2, by simp⟩) J (fun pre W1 o hj => hJ pre W1 (W1.alloc o) none hj (World.grownBy_alloc W1 o none) (by simp)) hY W hSW h0

set_option maxRecDepth 100000 in
set_option maxHeartbeats 1600000 in
theorem table_all1 (b0 g : Nat) (v : Value) (l : List PN) (hl : l.length ≤ 1000000) (w : World) (hS : TbN b0 w g v l) (bm gy : Nat) (caps : Array Value) (c0 : w.cell? ⟨bm, 0, none⟩ = some (.pointer (some ⟨g, 0, none⟩)))
    (eg : ∀ args w, (callFunc gy args).run Tryz.prog w = .ok (.enter gy args) w) (T : List Nat) (hT : ∀ x ∈ T, x < w.heap.size) (U Ux : Nat → List PN → World → Prop) (hUa : ∀ n₀ pre W o, U n₀ pre W → U n₀ pre (W.alloc o))
    (hU0 : ∀ n₀ W, w.heap.size ≤ n₀ → n₀ = W.heap.size → Fr [] w W → U n₀ [] W)
    (hY : ∀ n₀ pre (x : PN) W, w.heap.size ≤ n₀ → n₀ ≤ W.heap.size → pre ++ [x] <+: l → Kb n₀ T w W → U n₀ pre W → Calls Tryz.prog gy (#[kN x.1, vN x.2] ++ caps) W (Usr n₀ T (U n₀) (Ux n₀) pre x W)) :
    Calls Tryz.prog 101 #[.func (.func gy) #[] caps, .pointer (some ⟨bm, 0, none⟩)] w (AllOk w T U Ux (l)) := by
  have HS := Lib.hid hS
  have HL := Lib.hid hl
  have HT := Lib.hid hT
  have HU0 := Lib.hid hU0
  have HY := Lib.hid hY
  have hbl := block_lt_of_cell c0
  have HEG := Lib.hid eg
  have HUA := Lib.hid hUa
  clear hUa
  clear hS hl hT hU0 hY eg
  go_enter Tryz.func101, Tryz.ntmps101
  go_wp2_with fail
  obtain ⟨z, hz⟩ : ∃ z, z = w.alloc (.cells #[.func (.func gy) #[] caps] 108) := ⟨_, rfl⟩
  have hS := HS.out
  have hfz : Fr [] w z := by rw [hz]; exact (Fr.refl _ _).alloc _
  have hzb : w.heap.size < z.heap.size := by rw [hz]; simp
  have HBX : Hid (Bk z w.heap.size 108 #[.func (.func gy) #[] caps]) := by rw [hz]; exact Bk.new _ _ _
  have HFZ := Lib.hid hfz
  have HSZ := Lib.hid (hS.fr hfz (by simp) (by simp))
  rw [← hz]
  clear hz hfz
  refine (gatherN 104 #[.pointer (some ⟨g, 0, none⟩)] l z (enters_of Tryz.func104 (by kernel_rfl) rfl) (fun z' hz' => table_hands b0 g v l HL.out z z' HSZ.out hz')).mono ?_
  rintro e w1 ⟨vl, rfl, hL1, hf1⟩
  have HL1 := Lib.hid hL1
  have HF1 := Lib.hid (HFZ.out.trans hf1 (by simp))
  have HBX1 := Lib.hid (HBX.out.fr hf1 (by simp))
  have hq1 := hf1.size
  have hq2 := HFZ.out.size
  clear hL1 hf1
  go_wp2_with fail
  refine (giveN 105 #[.pointer (some ⟨w.heap.size, 0, none⟩)] z.heap.size w1.heap.size T vl l (by have := HL.out; omega) (enters_of Tryz.func105 (by kernel_rfl) rfl) (fun k hk => ⟨(HL1.out.lt k hk).2, fun hx => by have := (HL1.out.lt k hk).1; have := HT.out k hx; omega⟩) (U w1.heap.size) (Ux w1.heap.size) (HUA.out w1.heap.size) w1
    (fun pre x W1 h1 h2 h3 => table_all11 w1.heap.size T (U w1.heap.size) (Ux w1.heap.size) pre gy caps w.heap.size x.1 x.2 W1 ((h2.bk HBX1.out HBX1.out.lt (fun hx => by have := HT.out _ hx; omega)).cell 0) HEG.out
      (fun o => HY.out w1.heap.size pre x (W1.alloc o) HF1.out.size (by have := h2.size; simp; omega) h1 (((HF1.out.kb (by simp)).trans h2).trans (((Fr.refl [] W1).alloc o).kb (by simp))) (HUA.out _ _ _ _ h3))) HL1.out (HU0.out w1.heap.size w1 HF1.out.size rfl HF1.out)).mono ?_
  rintro e w2 ⟨rfl, hk2, hu2⟩
  have HK2 := Lib.hid hk2
  have HU2 := Lib.hid hu2
  clear hk2 hu2
  go_wp2_with fail
  go_end0
  exact ⟨rfl, (((HF1.out.kb (n₀ := w1.heap.size) (by simp)).trans HK2.out).mono HF1.out.size).fr, w1.heap.size, HF1.out.size, HK2.out.size, HU2.out⟩
end Go.Proofs.YtdjaalkbpdmdgaaGreat
