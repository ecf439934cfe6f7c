/-
  Bag: what hands on a container's things: each, given, gathered.
-/
import Derived.Test.YtdjaalkbpdmdgaaGreatBgRange
import Derived.Test.YtdjaalkbpdmdgaaGreatBg4
namespace Go.Proofs.YtdjaalkbpdmdgaaGreat
open Go.RowKit Go.Shelf
set_option linter.unusedVariables false
attribute [local go_sem] Oper.semAt_some

/-- Of what lay below n₀ only the blocks of the list may have turned. -/
structure Kb (n₀ : Nat) (T : List Nat) (w w' : World) : Prop where
  os : w'.os = w.os
  tape : w'.tape = w.tape
  output : w'.output = w.output
  size : w.heap.size ≤ w'.heap.size
  block : ∀ k, k < n₀ → k < w.heap.size → k ∉ T → w'.heap[k]? = w.heap[k]?
theorem Kb.refl (n₀ : Nat) (T : List Nat) (w : World) : Kb n₀ T w w := ⟨rfl, rfl, rfl, Nat.le_refl _, fun _ _ _ _ => rfl⟩
theorem Kb.trans {n₀ : Nat} {T : List Nat} {a b c : World} (h : Kb n₀ T a b) (k : Kb n₀ T b c) : Kb n₀ T a c :=
  ⟨k.os.trans h.os, k.tape.trans h.tape, k.output.trans h.output, Nat.le_trans h.size k.size, fun i h1 h2 h3 => (k.block i h1 (Nat.lt_of_lt_of_le h2 h.size) h3).trans (h.block i h1 h2 h3)⟩
theorem Fr.kb {n₀ : Nat} {T S : List Nat} {a b : World} (h : Fr S a b) (hS : ∀ x ∈ S, x ∈ T ∨ n₀ ≤ x) : Kb n₀ T a b :=
  ⟨h.os, h.tape, h.output, h.size, fun k h1 h2 h3 => h.block k h2 (fun hx => by rcases hS k hx with e | e; exact h3 e; omega)⟩
theorem Kb.bk {n₀ : Nat} {T : List Nat} {a b : World} (h : Kb n₀ T a b) {g : Nat} {t : TypeId} {cs : Array Value} (hb : Bk a g t cs) (h1 : g < n₀) (h3 : g ∉ T) : Bk b g t cs := (h.block g h1 hb.lt h3).trans hb
theorem Kb.lst {n₀ : Nat} {T : List Nat} {a b : World} (h : Kb n₀ T a b) {b0 : Nat} {e : TypeId} {size n : Nat} {v : Value} {xs : List Value} (hL : Lst a b0 e size v n xs) (h1 : ∀ k, v.ownBlock = some k → k < n₀ ∧ k ∉ T) : Lst b b0 e size v n xs := by
  refine ⟨hL.1, ?_⟩
  rcases hL.2 with hn | ⟨g, off, cap, cur, rfl, hb, hg, rest⟩
  · exact .inl hn
  · obtain ⟨k1, k2⟩ := h1 g rfl
    exact .inr ⟨g, off, cap, cur, rfl, hb, h.bk (show Bk a g e cur from hg) k1 k2, rest⟩
theorem Kb.mono {n₀ n₁ : Nat} {T : List Nat} {a b : World} (h : Kb n₀ T a b) (hn : n₁ ≤ n₀) : Kb n₁ T a b := ⟨h.os, h.tape, h.output, h.size, fun k h1 h2 h3 => h.block k (by omega) h2 h3⟩
theorem Kb.fr {T : List Nat} {w W' : World} (h : Kb w.heap.size T w W') : Fr T w W' := ⟨h.os, h.tape, h.output, h.size, fun k h1 h2 => h.block k h1 h1 h2⟩
theorem bk_kept {W W' : World} {row : Option Nat} {b : Nat} {t : TypeId} {cs : Array Value} (h : Bk W b t cs) (hg : W.grownBy W' row) (hrow : ∀ r, row = some r → ∃ o : Obj, W.heap[r]? = some o ∧ o.isCells = false) : Bk W' b t cs :=
  (grownBy_keeps_cells hg hrow h rfl).trans h
theorem lst_kept {W W' : World} {row : Option Nat} {base : Nat} {e : TypeId} {size n : Nat} {v : Value} {xs : List Value} (h : Lst W base e size v n xs) (hg : W.grownBy W' row) (hrow : ∀ r, row = some r → ∃ o : Obj, W.heap[r]? = some o ∧ o.isCells = false) : Lst W' base e size v n xs := by
  refine ⟨h.1, ?_⟩
  rcases h.2 with hn | ⟨g, off, cap, cur, rfl, hb, hgg, rest⟩
  · exact .inl hn
  · exact .inr ⟨g, off, cap, cur, rfl, hb, bk_kept (show Bk W g e cur from hgg) hg hrow, rest⟩
theorem kb_of_grown {n₀ : Nat} {T : List Nat} {W W' : World} {row : Option Nat} (h : W.grownBy W' row) (hr : ∀ r, row = some r → n₀ ≤ r) : Kb n₀ T W W' :=
  ⟨h.os, h.tape, h.output, h.size, fun k h1 h2 _ => h.block k h2 (fun e => by have := hr k e.symm; omega)⟩
theorem Fr.keeps {n₀ : Nat} {S : List Nat} {W W' : World} (h : Fr S W W') (hS : ∀ x ∈ S, ∃ t cs, Bk W x t cs) : KeepsFrom n₀ W W' :=
  ⟨h.size, fun k o hB hk ho => (h.block k (Array.getElem?_eq_some_iff.1 hk).1 (fun hx => by
    obtain ⟨t, cs, hb⟩ := hS k hx
    unfold Bk at hb
    rw [hk] at hb
    injection hb with hb
    subst hb
    cases ho)).trans hk⟩

def HandOk {α : Type} (xs : List α) (J : List α → World → Prop) (e : Ending) (W' : World) : Prop := (∃ v, e = .returned v) ∧ ∃ ys, ys = xs ∧ J ys W'

set_option maxRecDepth 100000 in
set_option maxHeartbeats 1600000 in
theorem stackEach_in (n : Nat) (hn : 1 ≤ n) (lp b0 g n₀ N : Nat) (T : List Nat) (most : Int) (v : Value) (l : List Int) (hl : l.length < N) (hl2 : l.length ≤ 1000000000)
    (hg : g < n₀ ∧ g ∉ T) (hv : ∀ k, v.ownBlock = some k → k < n₀ ∧ k ∉ T) (J : List Int → World → Prop)
    (hY : ∀ pre x W, J pre W → pre.length < N → YieldAt Fence.wide (n - 1) Tryz.prog lp #[.int .i64 x] W fun e W' => e = .returned (.bool true) ∧ J (pre ++ [x]) W' ∧ Kb n₀ T W W')
    (W : World) (hS : Sk 121 b0 W g most v l) (h0 : J [] W) :
    CallsIn Fence.wide n Tryz.prog 82 #[.pointer (some ⟨g, 0, none⟩), .func (.yield lp) #[] #[]] W (HandOk l.reverse J) := by
  refine callsIn_of_wp Tryz.func82 rfl trivial ?_ rfl
  simp only [Tryz.ntmps82, List.size_toArray, List.length_cons, List.length_nil, Nat.reduceAdd, Nat.reduceSub, Array.replicate_succ, Array.replicate_zero, List.push_toArray, List.append_toArray, List.nil_append, List.cons_append]
  obtain ⟨m, hm⟩ : ∃ m, l.length = m := ⟨_, rfl⟩
  have hL := hS.L
  rw [hm] at hL hl hl2
  obtain ⟨A, cp, rfl, _, _⟩ := hL.look
  have c1 : W.cell? ⟨g, 1, none⟩ = some (.slice A m cp) := hS.B.cell 1
  have HB := Lib.hid hS.B
  have HL := Lib.hid hL
  have HY := Lib.hid hY
  have HM := Lib.hid hm
  have HV := Lib.hid hv
  have HG := Lib.hid hg
  clear hS hL hY hm hv hg
  gi_wp2
  gi_loopw [4] (fun u wr => ∃ k : Nat, k ≤ m ∧ u = .int .i64 ((k : Int) - 1) ∧ Hid (J (l.drop k).reverse wr) ∧ Hid (Kb n₀ T W wr)) (fun u _ => (intOf u + 1).toNat)
  case atStart => exact ⟨m, Nat.le_refl _, rfl, (by show J (l.drop m).reverse W; rw [List.drop_eq_nil_of_le (by rw [HM.out]; exact Nat.le_refl _)]; exact h0), Kb.refl _ _ _⟩
  case round =>
    obtain ⟨k, hk, rfl, HJ, HK⟩ := hrel
    rcases Nat.eq_zero_or_pos k with h0 | h0
    · subst h0
      have hd : decide ((0 : Int) ≤ ((0 : Nat) : Int) - 1) = false := decide_eq_false (by omega)
      have hd2 : decide ((0 : Int) ≤ (-1 : Int)) = false := by decide
      gi_wp2
      go_end0
      exact ⟨⟨_, rfl⟩, _, rfl, HJ.out⟩
    · obtain ⟨q, rfl⟩ : ∃ q, k = q + 1 := ⟨k - 1, by omega⟩
      have e1 : ((q + 1 : Nat) : Int) - 1 = (q : Int) := by omega
      rw [e1]
      have hd : decide ((0 : Int) ≤ (q : Int)) = true := decide_eq_true (by omega)
      obtain ⟨x, hx⟩ : ∃ x, l[q]? = some x := ⟨_, List.getElem?_eq_getElem (by have := HM.out; omega)⟩
      have hLr := HK.out.lst HL.out HV.out
      obtain ⟨gs, off, cp', hv, _, _, _, _, _, _, hcell⟩ := hLr.form (by omega)
      injection hv with hv1 _ hv3
      subst hv1
      have cx := hcell q _ (iV_at hx)
      have c1 : wr.cell? ⟨g, 1, none⟩ = some (.slice (some ⟨gs, off, none⟩) m cp) := (HK.out.bk HB.out HG.out.1 HG.out.2).cell 1
      have i0 : (0 : Int) ≤ (q : Int) := by omega
      have i1 : (q : Int) < (m : Int) := by omega
      have hlen : (l.drop (q + 1)).reverse.length < N := by rw [List.length_reverse, List.length_drop, HM.out]; omega
      obtain ⟨fn, tmps, assign, body, hy, hR⟩ := HY.out (l.drop (q + 1)).reverse x wr HJ.out hlen
      have hnext : (l.drop (q + 1)).reverse ++ [x] = (l.drop q).reverse := by
        obtain ⟨h1, h2⟩ := List.getElem?_eq_some_iff.1 hx
        rw [List.drop_eq_getElem_cons h1, List.reverse_cons, h2]
      have HN := Lib.hid hnext
      clear hcell hv3 hx hLr hlen hnext
      gi_wp2
      refine hR.mono ?_
      rintro e W3 ⟨rfl, hJ3, hk3⟩
      have HJ3 := Lib.hid hJ3
      have HK3 : Hid (Kb n₀ T W W3) := HK.out.trans hk3
      clear hJ3 hk3 hy hR
      gi_wp2
      go_roundw
      case rel => exact ⟨q, by omega, by go_num, (by show J (l.drop q).reverse W3; rw [← HN.out]; exact HJ3.out), HK3.out⟩
      case measure => first | (simp [intOf]; done) | (simp [intOf]; omega)

set_option maxRecDepth 100000 in
set_option maxHeartbeats 1600000 in
theorem givenI_in (n : Nat) (hn : 1 ≤ n) (lp b0 n₀ N : Nat) (T : List Nat) (v : Value) (l : List Int) (hl : l.length < N) (hl2 : l.length ≤ 1000000000)
    (hv : ∀ k, v.ownBlock = some k → k < n₀ ∧ k ∉ T) (J : List Int → World → Prop)
    (hY : ∀ pre (x : Int) W, J pre W → pre.length < N → YieldAt Fence.wide (n - 1) Tryz.prog lp #[.int .i64 x] W fun e W' => e = .returned (.bool true) ∧ J (pre ++ [x]) W' ∧ Kb n₀ T W W')
    (W : World) (hL : Lst W b0 3 1 v l.length (iV l)) (h0 : J [] W) :
    CallsIn Fence.wide n Tryz.prog 80 #[v, .func (.yield lp) #[] #[]] W (HandOk l J) := by
  refine callsIn_of_wp Tryz.func80 rfl trivial ?_ rfl
  simp only [Tryz.ntmps80, List.size_toArray, List.length_cons, List.length_nil, Nat.reduceAdd, Nat.reduceSub, Array.replicate_succ, Array.replicate_zero, List.push_toArray, List.append_toArray, List.nil_append, List.cons_append]
  obtain ⟨m, hm⟩ : ∃ m, l.length = m := ⟨_, rfl⟩
  rw [hm] at hL hl hl2
  obtain ⟨A, cp, rfl, _, _⟩ := hL.look
  have HL := Lib.hid hL
  have HY := Lib.hid hY
  have HM := Lib.hid hm
  have HV := Lib.hid hv
  clear hL hY hm hv
  gi_wp2
  gi_loopw [8] (fun u wr => ∃ k : Nat, k ≤ m ∧ u = .int .i64 k ∧ Hid (J (l.take k) wr) ∧ Hid (Kb n₀ T W wr)) (fun u _ => m - (intOf u).toNat)
  case atStart => exact ⟨0, Nat.zero_le _, rfl, h0, Kb.refl _ _ _⟩
  case round =>
    obtain ⟨q, hk, rfl, HJ, HK⟩ := hrel
    by_cases hlt : q < m
    · have hd : decide ((q : Int) < (m : Int)) = true := decide_eq_true (by omega)
      obtain ⟨x, hx⟩ : ∃ x, l[q]? = some x := ⟨_, List.getElem?_eq_getElem (by have := HM.out; omega)⟩
      have hLr := HK.out.lst HL.out HV.out
      obtain ⟨gs, off, cp', hv, _, _, _, _, _, _, hcell⟩ := hLr.form (by omega)
      injection hv with hv1 _ hv3
      subst hv1
      have cx := hcell q _ (iV_at hx)
      have i0 : (0 : Int) ≤ (q : Int) := by omega
      have i1 : (q : Int) < (m : Int) := by omega
      have hlen : (l.take q).length < N := by rw [List.length_take, HM.out]; omega
      obtain ⟨fn, tmps, assign, body, hy, hR⟩ := HY.out (l.take q) x wr HJ.out hlen
      have HZK : Hid (Kb n₀ T wr wr) := Kb.refl _ _ _
      have hnext : l.take q ++ [x] = l.take (q + 1) := by
        obtain ⟨h1, h2⟩ := List.getElem?_eq_some_iff.1 hx
        rw [List.take_succ_eq_append_getElem h1, h2]
      have HN := Lib.hid hnext
      clear hcell hv3 hx hLr hlen hnext
      gi_wp2
      refine hR.mono ?_
      rintro e W3 ⟨rfl, hJ3, hk3⟩
      have HJ3 := Lib.hid hJ3
      have HK3 : Hid (Kb n₀ T W W3) := (HK.out.trans HZK.out).trans hk3
      clear hJ3 hk3 hy hR HZK
      gi_wp2
      go_roundw
      case rel => exact ⟨q + 1, by omega, by go_num, (by show J (l.take (q + 1)) W3; rw [← HN.out]; exact HJ3.out), HK3.out⟩
      case measure => simp [intOf]; omega
    · obtain rfl : q = m := by omega
      have hd : decide ((q : Int) < (q : Int)) = false := decide_eq_false (by omega)
      gi_wp2
      go_end0
      refine ⟨⟨_, rfl⟩, _, rfl, ?_⟩
      have := HJ.out
      rw [List.take_of_length_le (by rw [HM.out]; exact Nat.le_refl _)] at this
      exact this

set_option maxRecDepth 100000 in
set_option maxHeartbeats 1600000 in
theorem givenN_in (n : Nat) (hn : 1 ≤ n) (lp b0 n₀ N : Nat) (T : List Nat) (v : Value) (l : List PN) (hl : l.length < N) (hl2 : l.length ≤ 1000000000)
    (hv : ∀ k, v.ownBlock = some k → k < n₀ ∧ k ∉ T) (J : List PN → World → Prop) (hJa : ∀ pre W o, J pre W → J pre (W.alloc o))
    (hY : ∀ pre (x : PN) W, J pre W → pre.length < N → YieldAt Fence.wide (n - 1) Tryz.prog lp #[.agg #[kN x.1, vN x.2]] W fun e W' => e = .returned (.bool true) ∧ J (pre ++ [x]) W' ∧ Kb n₀ T W W')
    (W : World) (hL : Lst W b0 138 2 v l.length (cellsN l)) (h0 : J [] W) :
    CallsIn Fence.wide n Tryz.prog 102 #[v, .func (.yield lp) #[] #[]] W (HandOk l J) := by
  refine callsIn_of_wp Tryz.func102 rfl trivial ?_ rfl
  simp only [Tryz.ntmps102, List.size_toArray, List.length_cons, List.length_nil, Nat.reduceAdd, Nat.reduceSub, Array.replicate_succ, Array.replicate_zero, List.push_toArray, List.append_toArray, List.nil_append, List.cons_append]
  obtain ⟨m, hm⟩ : ∃ m, l.length = m := ⟨_, rfl⟩
  rw [hm] at hL hl hl2
  obtain ⟨A, cp, rfl, _, _⟩ := hL.look
  have HL := Lib.hid hL
  have HY := Lib.hid hY
  have HM := Lib.hid hm
  have HV := Lib.hid hv
  have HJA := Lib.hid hJa
  clear hL hY hm hv
  gi_wp2
  gi_loopw [8] (fun u wr => ∃ k : Nat, k ≤ m ∧ u = .int .i64 k ∧ Hid (J (l.take k) wr) ∧ Hid (Kb n₀ T W wr)) (fun u _ => m - (intOf u).toNat)
  case atStart => exact ⟨0, Nat.zero_le _, rfl, h0, Kb.refl _ _ _⟩
  case round =>
    obtain ⟨q, hk, rfl, HJ, HK⟩ := hrel
    by_cases hlt : q < m
    · have hd : decide ((q : Int) < (m : Int)) = true := decide_eq_true (by omega)
      obtain ⟨x, hx⟩ : ∃ x, l[q]? = some x := ⟨_, List.getElem?_eq_getElem (by have := HM.out; omega)⟩
      have hLr := HK.out.lst HL.out HV.out
      obtain ⟨gs, off, cp', hv, _, _, _, _, _, _, hcell⟩ := hLr.form (by omega)
      injection hv with hv1 _ hv3
      subst hv1
      obtain ⟨pk, pv⟩ := x
      obtain ⟨ck, cv⟩ := cells2_at (fun p : PN => kN p.1) (fun p => vN p.2) l q (pk, pv) hx
      have ck := hcell _ _ ck
      have cv := hcell _ _ cv
      rw [← Nat.add_assoc] at cv
      unfold kN at ck
      unfold vN at cv
      have i0 : (0 : Int) ≤ (q : Int) := by omega
      have i1 : (q : Int) < (m : Int) := by omega
      have hlen : (l.take q).length < N := by rw [List.length_take, HM.out]; omega
      obtain ⟨z, hz⟩ : ∃ z, z = wr.alloc (.cells #[.int .i64 pk, .int .u64 pv] 138) := ⟨_, rfl⟩
      have hJz : J (l.take q) z := by rw [hz]; exact HJA.out _ _ _ HJ.out
      have HZK : Hid (Kb n₀ T wr z) := by rw [hz]; exact ((Fr.refl [] wr).alloc _).kb (by simp)
      obtain ⟨fn, tmps, assign, body, hy, hR⟩ := HY.out (l.take q) (pk, pv) z hJz hlen
      have hy : Sem.run Tryz.prog (Instr.yield lp #[.agg #[.int .i64 pk, .int .u64 pv]]) z = .ok (.round lp fn tmps assign body) z := hy
      rw [hz] at hy
      have hnext : l.take q ++ [(pk, pv)] = l.take (q + 1) := by
        obtain ⟨h1, h2⟩ := List.getElem?_eq_some_iff.1 hx
        rw [List.take_succ_eq_append_getElem h1, h2]
      have HN := Lib.hid hnext
      clear hcell hv3 hx hLr hlen hnext
      gi_wp2
      rw [hz] at hR HZK
      refine hR.mono ?_
      rintro e W3 ⟨rfl, hJ3, hk3⟩
      have HJ3 := Lib.hid hJ3
      have HK3 : Hid (Kb n₀ T W W3) := (HK.out.trans HZK.out).trans hk3
      clear hJ3 hk3 hy hR HZK
      gi_wp2
      go_roundw
      case rel => exact ⟨q + 1, by omega, by go_num, (by show J (l.take (q + 1)) W3; rw [← HN.out]; exact HJ3.out), HK3.out⟩
      case measure => simp [intOf]; omega
    · obtain rfl : q = m := by omega
      have hd : decide ((q : Int) < (q : Int)) = false := decide_eq_false (by omega)
      gi_wp2
      go_end0
      refine ⟨⟨_, rfl⟩, _, rfl, ?_⟩
      have := HJ.out
      rw [List.take_of_length_le (by rw [HM.out]; exact Nat.le_refl _)] at this
      exact this
end Go.Proofs.YtdjaalkbpdmdgaaGreat
