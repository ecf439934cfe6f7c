/-
  Marks: the iterator over the beginnings of runs (the bits' own begins).
-/
import Derived.RangeFuncNested
import Derived.RangeFuncBound
import Derived.RangeFuncCalls
import Derived.RangeFuncLeaves
import Derived.Shelf.Abstract
import Derived.Shelf.RegionOpen
import Derived.WalkKit
import Derived.OwnWalkIn
import Derived.TacticsInMore
import Derived.LoopNIn
import Derived.LoopIn
import Derived.Test.YtheiacfdbhjbmaaDoorMk8
import Derived.Test.YtheiacfdbhjbmaaDoorMkRunPlain
namespace Go.Proofs.YtheiacfdbhjbmaaDoor
open Go.RowKit Go.Shelf Mk
set_option linter.unusedVariables false
attribute [local go_sem] Oper.semAt_some

/-- What a round keeps: of what lay below n₀ only the blocks of the list may turn. -/
structure Kb (n₀ : Nat) (T : List Nat) (w w' : World) : Prop where
  os : w'.os = w.os
  tape : w'.tape = w.tape
  output : w'.output = w.output
  size : w.heap.size ≤ w'.heap.size
  block : ∀ k, k < n₀ → k < w.heap.size → k ∉ T → w'.heap[k]? = w.heap[k]?
theorem Kb.refl (n₀ : Nat) (T : List Nat) (w : World) : Kb n₀ T w w := ⟨rfl, rfl, rfl, Nat.le_refl _, fun _ _ _ _ => rfl⟩
theorem Kb.trans {n₀ : Nat} {T : List Nat} {a b c : World} (h : Kb n₀ T a b) (k : Kb n₀ T b c) : Kb n₀ T a c :=
  ⟨k.os.trans h.os, k.tape.trans h.tape, k.output.trans h.output, Nat.le_trans h.size k.size, fun i h1 h2 h3 => (k.block i h1 (Nat.lt_of_lt_of_le h2 h.size) h3).trans (h.block i h1 h2 h3)⟩
theorem Fr.kb {n₀ : Nat} {T S : List Nat} {a b : World} (h : Fr S a b) (hS : ∀ x ∈ S, x ∈ T ∨ n₀ ≤ x) : Kb n₀ T a b :=
  ⟨h.os, h.tape, h.output, h.size, fun k h1 h2 h3 => h.block k h2 (fun hx => by rcases hS k hx with e | e; exact h3 e; omega)⟩
theorem Kb.cell {n₀ : Nat} {T : List Nat} {a b : World} (h : Kb n₀ T a b) {p : Addr} {v : Value} (h1 : p.block < n₀) (h2 : p.block < a.heap.size) (h3 : p.block ∉ T) (hc : a.cell? p = some v) : b.cell? p = some v :=
  (World.cell?_of_block (h.block p.block h1 h2 h3)).trans hc
theorem Ws.kb {n₀ : Nat} {T : List Nat} {a b : World} {bb m : Nat} {f : Nat → Bool} (h : Ws a bb m f) (k : Kb n₀ T a b) (h1 : bb < n₀) (h3 : bb ∉ T) : Ws b bb m f := by
  refine ⟨Nat.lt_of_lt_of_le h.lt k.size, fun i hi => ?_⟩
  obtain ⟨x, hx, hw⟩ := h.wd i hi
  exact ⟨x, k.cell (p := ⟨bb, i, none⟩) h1 h.lt h3 hx, hw⟩

theorem nxt_eq {f : Nat → Bool} {a size r : Nat} (ha : a ≤ size) (h : Nxt f a size r) : r = nextN f size a := by
  have hr : a ≤ r ∧ r ≤ size := by rcases h.is with e | ⟨h1, h2, _⟩ <;> omega
  exact nx_eq hr.1 (by omega) h.none (fun hl => by
    rcases h.is with e | ⟨_, _, h3⟩
    · omega
    · exact h3)
theorem endN_eq {f : Nat → Bool} {a size y : Nat} (h1 : a ≤ y) (h2 : y ≤ size) (h3 : ∀ j, a ≤ j → j < y → f j = true) (h4 : y < size → f y = false) : y = endN f size a :=
  nx_eq h1 (by omega) (fun j hj1 hj2 => by simp [h3 j hj1 hj2]) (fun hl => by simp [h4 (by omega)])

def BegOk (f : Nat → Bool) (size : Nat) (J Jx : List Nat → World → Prop) (e : Ending) (W' : World) : Prop :=
  (∃ v, e = .returned v) ∧ ((∃ ys, ys = begs f size ∧ J ys W') ∨ (∃ pre, pre <+: begs f size ∧ Jx pre W'))

set_option maxRecDepth 100000 in
set_option maxHeartbeats 2000000 in
theorem begins_in (n : Nat) (hn : 1 ≤ n) (l B1 B2 n₀ bb m cap size : Nat) (T : List Nat) (f : Nat → Bool) (hm : m ≤ 65536) (hsz : size ≤ 64 * m) (hf : ∀ j, size ≤ j → f j = false)
    (l1 : B1 < n₀) (l2 : B2 < n₀) (l3 : bb < n₀) (t1 : B1 ∉ T) (t2 : B2 ∉ T) (t3 : bb ∉ T) (J Jx : List Nat → World → Prop)
    (hY : ∀ pre x W, J pre W → pre.length < size + 1 → x < size → f x = true → YieldAt Fence.wide (n - 1) Tryd.prog l #[.int .i64 (x : Nat)] W fun e W' =>
      (e = .returned (.bool true) ∧ J (pre ++ [x]) W' ∧ Kb n₀ T W W') ∨ (e = .returned (.bool false) ∧ Jx (pre ++ [x]) W'))
    (W : World) (hn0 : n₀ ≤ W.heap.size) (hB1 : W.cell? ⟨B1, 0, none⟩ = some (.slice (some ⟨bb, 0, none⟩) m cap)) (hB2 : W.cell? ⟨B2, 0, none⟩ = some (.int .i64 size)) (hW : Ws W bb m f) (h0 : J [] W) :
    CallsIn Fence.wide n Tryd.prog 45 #[.func (.yield l) #[] #[], .pointer (some ⟨B1, 0, none⟩), .pointer (some ⟨B2, 0, none⟩)] W (BegOk f size J Jx) := by
  refine callsIn_of_wp Tryd.func45 rfl trivial ?_ rfl
  simp only [Tryd.ntmps45, List.size_toArray, List.length_cons, List.length_nil, Nat.reduceAdd, Nat.reduceSub, Array.replicate_succ, Array.replicate_zero, List.push_toArray, List.append_toArray, List.nil_append, List.cons_append]
  gi_wp2_with (refine ⟨trivial, ?_⟩; gi_at_call 40; refine (callsIn_wide.2 (next_any bb m cap 0 size f W hm hsz (by omega) hf hW)).mono ?_; rintro e w' ⟨⟨r, rfl, hr⟩, rfl⟩)
  have HR2 := Lib.hid (nxt_eq (Nat.zero_le size) hr)
  clear hr
  have HY := Lib.hid hY
  have HWS := Lib.hid hW
  have HF := Lib.hid hf
  have HB1 := Lib.hid hB1
  have HB2 := Lib.hid hB2
  have hbb := hW.lt
  clear hY hW hf hB1 hB2
  gi_loopw [4] (fun v wr => ∃ (pre : List Nat) (k a : Nat), v = .int .i64 a ∧ a ≤ size ∧ size < a + k ∧ Hid (begs f size = pre ++ begF f size k a) ∧ Hid (J pre wr) ∧ Hid (Kb n₀ T W wr) ∧ Hid (a < size → f a = true)) (fun v _ => size - (intOf v).toNat)
  case atStart =>
    obtain ⟨s1, s2, s3, s4⟩ := nextN_spec f (Nat.zero_le size)
    rw [← HR2.out] at s1 s2 s3 s4
    exact ⟨[], size + 1, r, rfl, s2, by omega, by show begs f size = [] ++ begF f size (size + 1) r; unfold begs; rw [← HR2.out]; rfl, h0, Kb.refl _ _ _, s4⟩
  case round =>
    obtain ⟨pre, k, a, rfl, ha, hk, HBG, HJ, HK, HM⟩ := hrel
    have hn1 := HK.out.size
    have c1 := HK.out.cell (p := ⟨B1, 0, none⟩) l1 (by show B1 < W.heap.size; omega) t1 HB1.out
    have c2 := HK.out.cell (p := ⟨B2, 0, none⟩) l2 (by show B2 < W.heap.size; omega) t2 HB2.out
    by_cases hlt : a < size
    · obtain ⟨k', rfl⟩ : ∃ k', k = k' + 1 := ⟨k - 1, by omega⟩
      have hlen : pre.length < size + 1 := by
        have h1 := congrArg List.length HBG.out
        rw [begF_step f size hlt, List.length_append, List.length_cons] at h1
        have h2 := begF_length f size (size + 1) (nextN f size 0)
        unfold begs at h1
        omega
      obtain ⟨fn, tmps, assign, body, hy, hR⟩ := HY.out pre a wr HJ.out hlen hlt (HM.out hlt)
      have hlt' : (a : Int) < (size : Int) := by omega
      gi_wp2
      refine hR.mono ?_
      rintro e W3 (⟨rfl, hJ3, hk3⟩ | ⟨rfl, hJx3⟩)
      · have HJ3 := Lib.hid hJ3
        have HK3 : Hid (Kb n₀ T W W3) := HK.out.trans hk3
        have hn3 := HK3.out.size
        have hW3 : Ws W3 bb m f := HWS.out.kb HK3.out l3 t3
        have HW3 := Lib.hid hW3
        have d1 := HK3.out.cell (p := ⟨B1, 0, none⟩) l1 (by show B1 < W.heap.size; omega) t1 HB1.out
        have d2 := HK3.out.cell (p := ⟨B2, 0, none⟩) l2 (by show B2 < W.heap.size; omega) t2 HB2.out
        have HAL := Lib.hid hlt
        clear hJ3 hk3 hW3 c1 c2 hy hlen hR
        gi_wp2
        gi_loopw [4] (fun v wr => ∃ y : Nat, v = .int .i64 y ∧ a ≤ y ∧ y ≤ size ∧ Hid (∀ j, a ≤ j → j < y → f j = true) ∧ W3 = wr) (fun v _ => size - (intOf v).toNat)
        case atStart => exact ⟨a, rfl, Nat.le_refl _, ha, fun j h1 h2 => by omega, rfl⟩
        case round =>
          obtain ⟨y, rfl, hy1, hy2, HE, rfl⟩ := hrel
          by_cases hys : y < size
          · have hys' : (y : Int) < (size : Int) := by omega
            have hh := has_any bb m cap y f W3 hm (by omega) HW3.out
            obtain ⟨fy, hfy⟩ : ∃ fy, f y = fy := ⟨_, rfl⟩
            rw [hfy] at hh
            have HFY := Lib.hid hfy
            have HH := Lib.hid hh
            clear hfy hh
            cases fy with
            | true =>
              gi_wp2_with (refine ⟨trivial, ?_⟩; gi_at_call 36; refine (callsIn_wide.2 HH.out).mono ?_; rintro e w' ⟨rfl, rfl⟩)
              go_roundw
              case rel =>
                refine ⟨y + 1, by go_num, by omega, by omega, ?_, by first | rfl | trivial⟩
                show ∀ j, a ≤ j → j < y + 1 → f j = true
                intro j h1 h2
                by_cases hj : j = y
                · subst hj; exact HFY.out
                · exact HE.out j h1 (by omega)
              case measure => simp [intOf]; omega
            | false =>
              have he := endN_eq (f := f) (size := size) hy1 hy2 HE.out (fun _ => HFY.out)
              have HEN := Lib.hid he
              clear he
              gi_wp2_with (first | (refine ⟨trivial, ?_⟩; gi_at_call 36; refine (callsIn_wide.2 HH.out).mono ?_; rintro e w' ⟨rfl, rfl⟩) | (refine ⟨trivial, ?_⟩; gi_at_call 40; refine (callsIn_wide.2 (next_any bb m cap y size f W3 hm hsz (by omega) HF.out HW3.out)).mono ?_; rintro e w' ⟨⟨r2, rfl, hrr⟩, rfl⟩))
              have hq := nxt_eq hy2 hrr
              obtain ⟨s1, s2, s3, s4⟩ := nextN_spec f hy2
              rw [← hq] at s1 s2 s3 s4
              have hlt2 := endN_lt f HAL.out (HM.out HAL.out)
              rw [← HEN.out] at hlt2
              go_roundw
              case rel =>
                have hbg : begs f size = (pre ++ [a]) ++ begF f size k' r2 := by
                  rw [HBG.out, begF_step f size HAL.out, ← HEN.out, ← hq, List.append_assoc]
                  rfl
                exact ⟨pre ++ [a], k', r2, rfl, s2, by omega, hbg, HJ3.out, HK3.out, s4⟩
              case measure => simp [intOf]; omega
          · have hys' : ¬ (y : Int) < (size : Int) := by omega
            have he := endN_eq (f := f) (size := size) hy1 hy2 HE.out (fun h => absurd h hys)
            have HEN := Lib.hid he
            clear he
            gi_wp2_with (first | (refine ⟨trivial, ?_⟩; gi_at_call 40; refine (callsIn_wide.2 (next_any bb m cap y size f W3 hm hsz (by omega) HF.out HW3.out)).mono ?_; rintro e w' ⟨⟨r2, rfl, hrr⟩, rfl⟩) | refine ⟨trivial, ?_⟩)
            have hq := nxt_eq hy2 hrr
            obtain ⟨s1, s2, s3, s4⟩ := nextN_spec f hy2
            rw [← hq] at s1 s2 s3 s4
            have hlt2 := endN_lt f HAL.out (HM.out HAL.out)
            rw [← HEN.out] at hlt2
            go_roundw
            case rel =>
              have hbg : begs f size = (pre ++ [a]) ++ begF f size k' r2 := by
                rw [HBG.out, begF_step f size HAL.out, ← HEN.out, ← hq, List.append_assoc]
                rfl
              exact ⟨pre ++ [a], k', r2, rfl, s2, by omega, hbg, HJ3.out, HK3.out, s4⟩
            case measure => simp [intOf]; omega
      · gi_wp2
        refine bodyPost_ret (results_none rfl _ _ _) rfl ?_
        refine ⟨⟨_, rfl⟩, .inr ⟨pre ++ [a], ?_, hJx3⟩⟩
        rw [HBG.out, begF_step f size hlt]
        exact ⟨begF f size k' (nextN f size (endN f size a)), by simp⟩
    · have hlt' : ¬ (a : Int) < (size : Int) := by omega
      have he : begs f size = pre := by rw [HBG.out, begF_end f size (by omega)]; simp
      have HE := Lib.hid he
      clear he
      gi_wp2
      go_end0
      exact ⟨⟨_, rfl⟩, .inl ⟨pre, HE.out.symm, HJ.out⟩⟩

/-- A marked word. -/
abbrev Mkd (f : Nat → Bool) (size : Nat) := { x : Nat // x < size ∧ f x = true }

theorem begins_stops (n : Nat) (hn : 1 ≤ n) (B1 B2 n₀ bb m cap size : Nat) (T : List Nat) (f : Nat → Bool) (hm : m ≤ 65536) (hsz : size ≤ 64 * m) (hf : ∀ j, size ≤ j → f j = false)
    (l1 : B1 < n₀) (l2 : B2 < n₀) (l3 : bb < n₀) (t1 : B1 ∉ T) (t2 : B2 ∉ T) (t3 : bb ∉ T) (w : World) (hn0 : n₀ = w.heap.size)
    (hB1 : w.cell? ⟨B1, 0, none⟩ = some (.slice (some ⟨bb, 0, none⟩) m cap)) (hB2 : w.cell? ⟨B2, 0, none⟩ = some (.int .i64 size)) (hW : Ws w bb m f) :
    SeqStopsK Fence.wide n Tryd.prog 45 #[.pointer (some ⟨B1, 0, none⟩), .pointer (some ⟨B2, 0, none⟩)] (fun x : Mkd f size => #[.int .i64 (x.1 : Nat)]) (Kb n₀ T)
      (fun xs => xs.map (·.1) = begs f size) (fun pre => pre.map (·.1) <+: begs f size) (size + 1) w := by
  intro l J Jx W hb hJ hJx hY h0
  have hbk : ∀ k, k < w.heap.size → W.heap[k]? = w.heap[k]? := fun k hk => hb.block k hk
  refine (begins_in n hn l B1 B2 n₀ bb m cap size T f hm hsz hf l1 l2 l3 t1 t2 t3 (fun pre W => ∃ q : List (Mkd f size), q.map (·.1) = pre ∧ J q W) (fun pre W => ∃ q : List (Mkd f size), q.map (·.1) = pre ∧ Jx q W) ?_ W (by rw [hn0]; exact hb.size)
    ((World.cell?_of_block (hbk B1 (by omega))).trans hB1) ((World.cell?_of_block (hbk B2 (by omega))).trans hB2) ⟨Nat.lt_of_lt_of_le hW.lt hb.size, fun i hi => ?_⟩ ⟨[], rfl, h0⟩).mono ?_
  · rintro pre x W1 ⟨q, hq, hj⟩ hlen hx hfx
    have hq2 : q.length = pre.length := by rw [← hq]; simp
    refine (hY q ⟨x, hx, hfx⟩ W1 hj (by omega)).mono ?_
    rintro e W' (⟨he, h1, h2⟩ | ⟨he, h1⟩)
    · exact .inl ⟨he, ⟨q ++ [⟨x, hx, hfx⟩], by simp [hq], h1⟩, h2⟩
    · exact .inr ⟨he, ⟨q ++ [⟨x, hx, hfx⟩], by simp [hq], h1⟩⟩
  · obtain ⟨x, hx, hw⟩ := hW.wd i hi
    exact ⟨x, (World.cell?_of_block (hbk bb hW.lt)).trans hx, hw⟩
  · rintro e W' ⟨hv, ⟨ys, hy, q, hq, hj⟩ | ⟨pre, hp, q, hq, hj⟩⟩
    · exact ⟨hv, .inl ⟨q, by show q.map (·.1) = begs f size; rw [hq, hy], hj⟩⟩
    · exact ⟨hv, .inr ⟨q, by show q.map (·.1) <+: begs f size; rw [hq]; exact hp, hj⟩⟩
end Go.Proofs.YtheiacfdbhjbmaaDoor
