/-
  Bag: ints (exact.go): what an iterator gives up to the stop-th thing, gone through twice.
-/
import Derived.Test.YtdjaalkbpdmdgaaGreatBg14
import Derived.Deep.QuietTactic
import Derived.BigQuiet
namespace Go.Proofs.YtdjaalkbpdmdgaaGreat
open Go.RowKit Go.Shelf
set_option linter.unusedVariables false

def stopL {α : Type} (L : List α) (stop : Int) : List α := if 1 ≤ stop then L.take stop.toNat else L
theorem stopL_pre {α : Type} (L : List α) (stop : Int) : stopL L stop <+: L := by
  unfold stopL
  split
  · exact List.take_prefix _ _
  · exact List.prefix_refl _
theorem Iw.alloc {n₀ bo be bl bs : Nat} {stop : Int} {ended : Bool} {pre : List Int} {W : World} (h : Iw n₀ bo be bl bs stop ended pre W) (o : Obj) : Iw n₀ bo be bl bs stop ended pre (W.alloc o) := by
  obtain ⟨v, hB, hL⟩ := h.L
  exact ⟨h.O.alloc o, h.E.alloc o, h.S.alloc o, ⟨v, hB.alloc o, hL.alloc o⟩, h.g, h.x⟩
theorem Iw.done {n₀ n₁ bo be bl bs : Nat} {stop : Int} {L : List Int} {W : World}
    (h : Iw n₀ bo be bl bs stop false L W ∨ ∃ pre, pre <+: L ∧ Iw n₀ bo be bl bs stop true pre W) (hn : n₁ ≤ n₀) : Bk W bo 4 #[.bool true] ∧ Bk W bs 3 #[.int .i64 stop] ∧ ∃ v, Bk W bl 68 #[v] ∧ Lst W n₁ 3 1 v (stopL L stop).length (iV (stopL L stop)) := by
  rcases h with h | ⟨pre, ⟨r, rfl⟩, h⟩
  · obtain ⟨v, hB, hL⟩ := h.L
    have : stopL L stop = L := by
      unfold stopL
      split
      · exact List.take_of_length_le (by have := h.g rfl; omega)
      · rfl
    rw [this]
    exact ⟨h.O, h.S, v, hB, hL.mono hn⟩
  · obtain ⟨v, hB, hL⟩ := h.L
    obtain ⟨hx, hp⟩ := h.x rfl
    by_cases h1 : 1 ≤ stop
    · have : stopL (pre ++ r) stop = pre := by
        unfold stopL
        rw [if_pos h1, show stop.toNat = pre.length by omega]
        exact List.take_left' rfl
      rw [this]
      exact ⟨h.O, h.S, v, hB, hL.mono hn⟩
    · omega

theorem eqlIn_nilF (t : TypeId) (ht : ∃ x y b, Tryz.prog.underlying t = some (.func x y b)) (d : Nat) (fn : Fn) (a b : Array Value) (W : World) : (Op.equalIn (d + 1) t (.func fn a b) .nilFunc).run Tryz.prog W = .ok false W := by
  obtain ⟨x, y, b', ht⟩ := ht
  simp [Op.equalIn, run_underlying ht]
theorem eql_nilF (t : TypeId) (ht : ∃ x y b, Tryz.prog.underlying t = some (.func x y b)) (fn : Fn) (a b : Array Value) (W : World) : (binOp .eql t (.func fn a b) .nilFunc).run Tryz.prog W = .ok (.bool false) W := by
  simp only [binOp]
  simp [Op.equal, Op.maxDepth, eqlIn_nilF t ht 9999]

theorem Lst.rdi {w : World} {b0 : Nat} {e : TypeId} {A : Option Addr} {n cp : Nat} {l : List Int} (h : Lst w b0 e 1 (.slice A n cp) n (iV l)) (hn : n = l.length) : RdI w A l := by
  obtain ⟨A', cp', hv, h1, h2⟩ := h.look
  injection hv with _ _ hv3
  subst hv3
  refine ⟨by unfold maxLen at h2; omega, fun h0 => ?_⟩
  obtain ⟨g, off, cap, hv, _, hg, _, _, _, _, hc⟩ := h.form (by omega)
  injection hv with hv1 _ _
  exact ⟨g, off, hv1, hg, fun i x hx => hc i _ (iV_at hx)⟩

set_option maxRecDepth 100000 in
set_option maxHeartbeats 1600000 in
theorem ints_any (gs : Nat) (sc : Array Value) (L : List Int) (B : List Nat) (stop : Int) (hl : L.length ≤ 1000000) (w : World) (hS : Seq Tryz.prog gs sc L encI B w) (eg : ∀ args w, (callFunc gs args).run Tryz.prog w = .ok (.enter gs args) w) :
    Calls Tryz.prog 35 #[.func (.func gs) #[] sc, .int .i64 stop] w fun e w' => ∃ v, e = .returned (.tuple #[v, .bool true]) ∧ Lst w' w.heap.size 3 1 v (stopL L stop).length (iV (stopL L stop)) ∧ Fr [] w w' := by
  have HS := Lib.hid hS
  have HL := Lib.hid hl
  have HE := Lib.hid eg
  clear hS hl
  go_enter Tryz.func35, Tryz.ntmps35
  have hnf := eql_nilF 87 ⟨_, _, _, Tryz.underlying87⟩ (.func gs) #[] sc (w.alloc (.cells #[.int .i64 stop] 3))
  go_upto_region 6 with fail
  clear hnf
  go_loopw [8] (fun i wr => ∃ k : Nat, k ≤ 2 ∧ i = .int .i64 k ∧ Hid (Fr [] w wr) ∧ Hid (Bk wr w.heap.size 3 #[.int .i64 stop]) ∧ Hid (Bk wr (w.heap.size + 1 + 1) 4 #[.bool true]) ∧ Hid (∃ v, Bk wr (w.heap.size + 1) 68 #[v] ∧ Lst wr w.heap.size 3 1 v (if k = 0 then [] else stopL L stop).length (iV (if k = 0 then [] else stopL L stop)))) (fun i _ => 2 - (intOf i).toNat)
  case atStart =>
    refine ⟨0, by omega, rfl, ?_, ?_, ?_, ?_⟩
    · exact (((Fr.refl [] w).alloc _).alloc _).alloc _
    · exact ((Bk.new _ _ _).alloc _).alloc _
    · exact Bk.new_at _ _ _ _ (by simp)
    · exact ⟨_, (Bk.new_at _ _ _ _ (by simp)).alloc _, Lst.nil _ _ _ _⟩
  case round =>
    obtain ⟨k, hk, rfl, HF, HSt, HO, HV⟩ := hrel
    obtain ⟨v, hB, hLv⟩ := HV.out
    have HB := Lib.hid hB
    have HLv := Lib.hid hLv
    have cb := hB.cell 0
    have fb := hB.free 0
    clear hB hLv HV
    by_cases hlt : k < 2
    · have hlt' : decide ((k : Int) < 2) = true := decide_eq_true (by omega)
      go_upto_region 11 with fail
      obtain ⟨z, hz⟩ : ∃ z, z = (wr.setCell ⟨w.heap.size + 1, 0, none⟩ (.slice none 0 0)).alloc (.cells #[.bool false] 4) := ⟨_, rfl⟩
      have hfz : Fr [w.heap.size + 1] wr z := by rw [hz]; exact ((Fr.refl _ _).setCell (by simp) _).alloc _
      have hzs : z.heap.size = wr.heap.size + 1 := by rw [hz]; simp
      have hsw := HF.out.size
      have hb3 := HO.out.lt
      have ZE : Hid (Bk z wr.heap.size 4 #[.bool false]) := by rw [hz]; exact Bk.new_at _ _ _ _ (by simp)
      have ZB : Hid (Bk z (w.heap.size + 1) 68 #[.slice none 0 0]) := by rw [hz]; exact (HB.out.put 0 (.slice none 0 0)).alloc _
      have ZO : Hid (Bk z (w.heap.size + 1 + 1) 4 #[.bool true]) := HO.out.fr hfz (by simp)
      have ZS : Hid (Bk z w.heap.size 3 #[.int .i64 stop]) := HSt.out.fr hfz (by simp)
      have ZF : Hid (Fr [] w z) := HF.out.trans hfz (by simp)
      have ZV : Hid (Lst z w.heap.size 3 1 v (if k = 0 then [] else stopL L stop).length (iV (if k = 0 then [] else stopL L stop))) := HLv.out.fr hfz (fun j hj hx => HLv.out.ne_bk HB.out (by decide) j hj (by simpa using hx))
      have hB1 := HS.out.1
      have ZH : Hid (Hand Tryz.prog gs sc L encI z) := (HS.out.sm (Sm.of_fr ZF.out (fun x hx => ⟨hB1 x hx, by simp⟩))).hand
      rw [← hz]
      clear hz hfz hB1 HO HSt HLv HB HF cb fb
      go_wp2_with fail
      refine (ZH.out 78 #[.pointer (some ⟨w.heap.size + 1 + 1, 0, none⟩), .pointer (some ⟨wr.heap.size, 0, none⟩), .pointer (some ⟨w.heap.size + 1, 0, none⟩), .pointer (some ⟨w.heap.size, 0, none⟩)] (enters_of Tryz.func78 (by kernel_rfl) rfl)
        [w.heap.size + 1 + 1, wr.heap.size, w.heap.size + 1] (by simp; omega)
        (fun n₀ => Iw n₀ (w.heap.size + 1 + 1) wr.heap.size (w.heap.size + 1) w.heap.size stop false) (fun n₀ => Iw n₀ (w.heap.size + 1 + 1) wr.heap.size (w.heap.size + 1) w.heap.size stop true) (fun _ _ _ o h => h.alloc o)
        (fun n₀ W h1 h2 h3 => ⟨ZO.out.fr h3 (by simp), ZE.out.fr h3 (by simp), ZS.out.fr h3 (by simp), ⟨_, ZB.out.fr h3 (by simp), Lst.nil _ _ _ _⟩, fun _ => by simp; omega, fun h => by cases h⟩)
        (fun n₀ pre x W h1 h2 h3 h4 h5 => ints1 n₀ (w.heap.size + 1 + 1) wr.heap.size (w.heap.size + 1) w.heap.size stop pre x W h5 (by omega) (by have h6 := h3.length_le; have h7 := HL.out; simp only [List.length_append, List.length_cons, List.length_nil] at h6; omega) h2 (by omega))).mono ?_
      rintro e w3 ⟨rfl, hf3, n₀, hn1, hn2, hu⟩
      obtain ⟨hO3, hS3, v3, hB3, hL3⟩ := Iw.done (n₁ := w.heap.size) hu (by omega)
      have ZF3 : Hid (Fr [] w w3) := ZF.out.trans hf3 (by simp; omega)
      have ZV3 : Hid (Lst w3 w.heap.size 3 1 v (if k = 0 then [] else stopL L stop).length (iV (if k = 0 then [] else stopL L stop))) := ZV.out.fr hf3 (fun j hj hx => by
        simp only [List.mem_cons, List.not_mem_nil, or_false] at hx
        rcases hx with hx | hx | hx
        · exact ZV.out.ne_bk ZO.out (by decide) j hj hx
        · exact ZV.out.ne_bk ZE.out (by decide) j hj hx
        · exact ZV.out.ne_bk ZB.out (by decide) j hj hx)
      have ZO3 := Lib.hid hO3
      have ZS3 := Lib.hid hS3
      have ZB3 := Lib.hid hB3
      have ZL3 := Lib.hid hL3
      have cO := hO3.cell 0
      have cB := hB3.cell 0
      have fO := hO3.free 0
      clear hf3 hu hO3 hS3 hB3 hL3 ZO ZE ZS ZB ZV ZF ZH
      have REL : ∀ w4, Fr [] w3 w4 → Hid (Fr [] w (w4.setCell ⟨w.heap.size + 1 + 1, 0, none⟩ (.bool true))) ∧ Hid (Bk (w4.setCell ⟨w.heap.size + 1 + 1, 0, none⟩ (.bool true)) w.heap.size 3 #[.int .i64 stop]) ∧
          Hid (Bk (w4.setCell ⟨w.heap.size + 1 + 1, 0, none⟩ (.bool true)) (w.heap.size + 1 + 1) 4 #[.bool true]) ∧
          Hid (∃ v, Bk (w4.setCell ⟨w.heap.size + 1 + 1, 0, none⟩ (.bool true)) (w.heap.size + 1) 68 #[v] ∧ Lst (w4.setCell ⟨w.heap.size + 1 + 1, 0, none⟩ (.bool true)) w.heap.size 3 1 v (stopL L stop).length (iV (stopL L stop))) := fun w4 h4 => by
        have s1 : Fr [w.heap.size + 1 + 1] w4 (w4.setCell ⟨w.heap.size + 1 + 1, 0, none⟩ (.bool true)) := (Fr.refl _ _).setCell (by simp) _
        refine ⟨(ZF3.out.trans h4 (by simp)).trans s1 (by simp; omega), (ZS3.out.fr h4 (by simp)).fr s1 (by simp; omega), (ZO3.out.fr h4 (by simp)).put 0 (.bool true), _, (ZB3.out.fr h4 (by simp)).fr s1 (by simp), (ZL3.out.fr h4 (by simp)).fr s1 (fun j hj hx => ?_)⟩
        exact ZL3.out.ne_bk ZO3.out (by decide) j hj (by simpa using hx)
      by_cases hk0 : k = 0
      · subst hk0
        go_wp2_with fail
        go_roundw
        case rel =>
          obtain ⟨r1, r2, r3, r4⟩ := REL w3 (Fr.refl _ _)
          exact ⟨1, by omega, rfl, r1, r2, r3, r4⟩
        case measure => decide
      · obtain rfl : k = 1 := by omega
        obtain ⟨A3, cp3, rfl, _, _⟩ := ZL3.out.look
        obtain ⟨A4, cp4, rfl, _, _⟩ := ZV3.out.look
        have hr1 := ZV3.out.rdi (by rw [if_neg (by omega)])
        rw [if_neg (by omega)] at hr1 ZV3
        go_wp2_with fail
        refine (same_yes A4 A3 (stopL L stop) _ cp4 cp3 w3 rfl hr1 (ZL3.out.rdi rfl)).mono ?_
        rintro e w4 ⟨rfl, hf4⟩
        obtain ⟨r1, r2, r3, r4⟩ := REL w4 hf4
        have cO4 := (ZO3.out.fr hf4 (by simp)).cell 0
        have fO4 := (ZO3.out.fr hf4 (by simp)).free 0
        clear hr1 REL cO cB fO
        go_wp2_with fail
        go_roundw
        case rel => exact ⟨2, by omega, rfl, r1, r2, r3, r4⟩
        case measure => decide
    · obtain rfl : k = 2 := by omega
      have cO := HO.out.cell 0
      have cB := HB.out.cell 0
      go_wp2_with fail
      go_quiet (fail)
      go_wp2_with fail
      go_ret2
      exact ⟨v, rfl, HLv.out.drewN _, HF.out.drewN _⟩
end Go.Proofs.YtdjaalkbpdmdgaaGreat
