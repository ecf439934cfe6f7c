/-
  Bag: tables of numbers by text as iterators; a step of a script on them; BagNamed.
-/
import Derived.Test.YtdjaalkbpdmdgaaGreatBg14
import Derived.Test.YtdjaalkbpdmdgaaGreatBgY2
import Derived.Test.YtdjaalkbpdmdgaaGreatBgW7
import Derived.Test.YtdjaalkbpdmdgaaGreatBg15
import Derived.Test.YtdjaalkbpdmdgaaGreatBgW8
import Derived.Deep.RegionHeld3
import Derived.Test.YtdjaalkbpdmdgaaGreatBgT12
namespace Go.Proofs.YtdjaalkbpdmdgaaGreat
open Go.RowKit Go.Shelf
set_option linter.unusedVariables false
attribute [local go_sem] Oper.semAt_some
set_option maxRecDepth 100000 in
set_option maxHeartbeats 1600000 in
theorem givenT_in (n : Nat) (hn : 1 ≤ n) (lp b0 n₀ N : Nat) (T : List Nat) (v : Value) (l : List PT) (hl : l.length < N) (hl2 : l.length ≤ 1000000000)
    (hv : ∀ k, v.ownBlock = some k → k < n₀ ∧ k ∉ T) (J : List PT → World → Prop) (hJa : ∀ pre W o, J pre W → J pre (W.alloc o))
    (hY : ∀ pre (x : PT) W, J pre W → pre.length < N → YieldAt Fence.wide (n - 1) Tryz.prog lp #[.agg #[kT x.1, vT x.2]] W fun e W' => e = .returned (.bool true) ∧ J (pre ++ [x]) W' ∧ Kb n₀ T W W')
    (W : World) (hL : Lst W b0 145 2 v l.length (cellsT l)) (h0 : J [] W) :
    CallsIn Fence.wide n Tryz.prog 108 #[v, .func (.yield lp) #[] #[]] W (HandOk l J) := by
  refine callsIn_of_wp Tryz.func108 rfl trivial ?_ rfl
  simp only [Tryz.ntmps108, List.size_toArray, List.length_cons, List.length_nil, Nat.reduceAdd, Nat.reduceSub, Array.replicate_succ, Array.replicate_zero, List.push_toArray, List.append_toArray, List.nil_append, List.cons_append]
  obtain ⟨m, hm⟩ : ∃ m, l.length = m := ⟨_, rfl⟩
  rw [hm] at hL hl hl2
  obtain ⟨A, cp, rfl, _, _⟩ := hL.look
  have HL := Lib.hid hL
  have HY := Lib.hid hY
  have HM := Lib.hid hm
  have HV := Lib.hid hv
  have HJA := Lib.hid hJa
  clear hL hY hm hv
  gi_wp2
  gi_loopw [8] (fun u wr => ∃ k : Nat, k ≤ m ∧ u = .int .i64 k ∧ Hid (J (l.take k) wr) ∧ Hid (Kb n₀ T W wr)) (fun u _ => m - (intOf u).toNat)
  case atStart => exact ⟨0, Nat.zero_le _, rfl, h0, Kb.refl _ _ _⟩
  case round =>
    obtain ⟨q, hk, rfl, HJ, HK⟩ := hrel
    by_cases hlt : q < m
    · have hd : decide ((q : Int) < (m : Int)) = true := decide_eq_true (by omega)
      obtain ⟨x, hx⟩ : ∃ x, l[q]? = some x := ⟨_, List.getElem?_eq_getElem (by have := HM.out; omega)⟩
      have hLr := HK.out.lst HL.out HV.out
      obtain ⟨gs, off, cp', hv, _, _, _, _, _, _, hcell⟩ := hLr.form (by omega)
      injection hv with hv1 _ hv3
      subst hv1
      obtain ⟨pk, pv⟩ := x
      obtain ⟨ck, cv⟩ := cells2_at (fun p : PT => kT p.1) (fun p => vT p.2) l q (pk, pv) hx
      have ck := hcell _ _ ck
      have cv := hcell _ _ cv
      rw [← Nat.add_assoc] at cv
      unfold kT at ck
      unfold vT at cv
      have i0 : (0 : Int) ≤ (q : Int) := by omega
      have i1 : (q : Int) < (m : Int) := by omega
      have hlen : (l.take q).length < N := by rw [List.length_take, HM.out]; omega
      obtain ⟨z, hz⟩ : ∃ z, z = wr.alloc (.cells #[.string pk, .int .i64 pv] 145) := ⟨_, rfl⟩
      have hJz : J (l.take q) z := by rw [hz]; exact HJA.out _ _ _ HJ.out
      have HZK : Hid (Kb n₀ T wr z) := by rw [hz]; exact ((Fr.refl [] wr).alloc _).kb (by simp)
      obtain ⟨fn, tmps, assign, body, hy, hR⟩ := HY.out (l.take q) (pk, pv) z hJz hlen
      have hy : Sem.run Tryz.prog (Instr.yield lp #[.agg #[.string pk, .int .i64 pv]]) z = .ok (.round lp fn tmps assign body) z := hy
      rw [hz] at hy
      have hnext : l.take q ++ [(pk, pv)] = l.take (q + 1) := by
        obtain ⟨h1, h2⟩ := List.getElem?_eq_some_iff.1 hx
        rw [List.take_succ_eq_append_getElem h1, h2]
      have HN := Lib.hid hnext
      clear hcell hv3 hx hLr hlen hnext
      gi_wp2
      rw [hz] at hR HZK
      refine hR.mono ?_
      rintro e W3 ⟨rfl, hJ3, hk3⟩
      have HJ3 := Lib.hid hJ3
      have HK3 : Hid (Kb n₀ T W W3) := (HK.out.trans HZK.out).trans hk3
      clear hJ3 hk3 hy hR HZK
      gi_wp2
      go_roundw
      case rel => exact ⟨q + 1, by omega, by go_num, (by show J (l.take (q + 1)) W3; rw [← HN.out]; exact HJ3.out), HK3.out⟩
      case measure => simp [intOf]; omega
    · obtain rfl : q = m := by omega
      have hd : decide ((q : Int) < (q : Int)) = false := decide_eq_false (by omega)
      gi_wp2
      go_end0
      refine ⟨⟨_, rfl⟩, _, rfl, ?_⟩
      have := HJ.out
      rw [List.take_of_length_le (by rw [HM.out]; exact Nat.le_refl _)] at this
      exact this

set_option maxRecDepth 100000 in
set_option maxHeartbeats 1600000 in
theorem tableTEach_in (n : Nat) (hn : 2 ≤ n) (lp b0 g n₀ N : Nat) (T : List Nat) (v : Value) (l : List PT) (hl : l.length < N) (hl2 : l.length ≤ 1000000000)
    (hv : ∀ k, v.ownBlock = some k → k < n₀ ∧ k ∉ T) (J : List PT → World → Prop) (hJa : ∀ pre W o, J pre W → J pre (W.alloc o))
    (hY : ∀ pre (x : PT) W, J pre W → pre.length < N → YieldAt Fence.wide (n - 1) Tryz.prog lp #[.agg #[kT x.1, vT x.2]] W fun e W' => e = .returned (.bool true) ∧ J (pre ++ [x]) W' ∧ Kb n₀ T W W')
    (W : World) (hS : TbT b0 W g v l) (h0 : J [] W) :
    CallsIn Fence.wide n Tryz.prog 110 #[.pointer (some ⟨g, 0, none⟩), .func (.yield lp) #[] #[]] W (HandOk l J) := by
  refine callsIn_of_wp Tryz.func110 rfl trivial ?_ rfl
  simp only [Tryz.ntmps110, List.size_toArray, List.length_cons, List.length_nil, Nat.reduceAdd, Nat.reduceSub, Array.replicate_succ, Array.replicate_zero, List.push_toArray, List.append_toArray, List.nil_append, List.cons_append]
  have c1 : W.cell? ⟨g, 0, none⟩ = some v := hS.B.cell 0
  have HL := Lib.hid hS.L
  have HY := Lib.hid hY
  have HV := Lib.hid hv
  have HH := Lib.hid h0
  have HN := Lib.hid (And.intro hl hl2)
  have HJA := Lib.hid hJa
  clear hJa
  clear hS hY hv h0 hl hl2
  gi_wp2
  refine ⟨trivial, fun _ => by omega, (givenT_in (n - 1) (by omega) lp b0 n₀ N T v l HN.out.1 HN.out.2 HV.out J HJA.out (fun pre x W h1 h2 => yieldAt_wide (HY.out pre x W h1 h2)) W HL.out HH.out).mono ?_⟩
  rintro e W3 ⟨⟨u, rfl⟩, hJ⟩
  gi_wp2
  go_end0
  exact ⟨⟨_, rfl⟩, hJ⟩

set_option maxRecDepth 100000 in
set_option maxHeartbeats 1600000 in
theorem gatherT (gf : Nat) (fi : Array Value) (L : List PT) (w : World)
    (eg : ∀ args w, (callFunc gf args).run Tryz.prog w = .ok (.enter gf args) w)
    (hH : ∀ z, Fr [] w z → Hands Fence.wide 5 Tryz.prog gf fi (fun x : PT => #[.agg #[kT x.1, vT x.2]]) (Kb w.heap.size []) (fun xs => xs = L) 1000001 z) :
    Calls Tryz.prog 109 #[.func (.func gf) fi #[]] w (fun e w' => ∃ v, e = .returned v ∧ Lst w' w.heap.size 145 2 v L.length (cellsT L) ∧ Fr [] w w') := by
  rw [← callsIn_wide (n := 6)]
  refine callsIn_of_wp_marks Tryz.func109 rfl trivial ?_ rfl
  simp only [Tryz.ntmps109, List.size_toArray, List.length_cons, List.length_nil, Nat.reduceAdd, Nat.reduceSub, Array.replicate_succ, Array.replicate_zero, List.push_toArray, List.append_toArray, List.nil_append, List.cons_append]
  have HH := Lib.hid hH
  have HE := Lib.hid eg
  clear hH eg
  gi_wp2
  obtain ⟨w1, hw1⟩ : ∃ w1, w1 = w.alloc (.cells #[.slice none 0 0] 128) := ⟨_, rfl⟩
  have hf1 : Fr [] w w1 := by rw [hw1]; exact (Fr.refl _ _).alloc _
  have hsz : w1.heap.size = w.heap.size + 1 := by rw [hw1]; simp
  have H0 : Hid (Gth w 128 145 2 cellsT [] w1) := ⟨_, by rw [hw1]; exact Bk.new _ _ _, Lst.nil _ _ _ _, hf1.kb (by simp)⟩
  have HF1 := Lib.hid hf1
  rw [← hw1]
  clear hw1 hf1
  refine wpIn_range_method rfl (by omega) (gf := gf) (fi := fi) rfl trivial HE.out (HH.out w1 HF1.out)
    (fun h k => h.trans k) (fun W l o o' hl h _ => kb_of_grown (grownBy_putObj' W l o') (fun r e => by cases e; omega)) (fun _ => rfl)
    (Gth w 128 145 2 cellsT) (Gth.own _ _ _ _ _ _ (by omega)) H0.out
    (fun x a' W => ∃ bx, w.heap.size < bx ∧ Bk W bx 145 #[kT x.1, vT x.2] ∧ a' = { tmps := #[.func (.func gf) fi #[], undef, .slice none 0 0, .pointer (some ⟨w.heap.size, 0, none⟩), .pointer (some ⟨bx, 0, none⟩), .func (.func gf) fi #[], .agg #[kT x.1, vT x.2], undef, undef, undef, undef, undef], defers := [] })
    (fun x a' s A B row hs hg hr => by
      obtain ⟨bx, h0, h1, h2⟩ := hs
      exact ⟨bx, h0, bk_kept h1 hg (fun r e => (hr r e).2), h2⟩) ?assign ?body ?done
  case assign =>
    intro l pre x W K hI hK
    have hws : w.heap.size + 1 ≤ W.heap.size := by obtain ⟨v, h1, _⟩ := hI; exact h1.lt
    obtain ⟨pk, pv⟩ := x
    unfold kT vT
    gi_wp2
    have hfa : Fr [] W (W.alloc (.cells #[.string pk, .int .i64 pv] 145)) := (Fr.refl _ _).alloc _
    exact hK _ _ (hfa.keeps (by simp)) (hfa.kb (by simp)) ((Gth.own _ _ _ _ _ (w.heap.size + 1) (by omega)).alloc _ hI) ⟨W.heap.size, by omega, Bk.new _ _ _, rfl⟩
  case body =>
    rintro l pre x a' W ⟨v, hB, hL, hk⟩ ⟨bx, hbx, hX, rfl⟩ hlen
    obtain ⟨A, cp, rfl, _, _⟩ := hL.look
    have c1 : W.cell? ⟨w.heap.size, 0, none⟩ = some (.slice A pre.length cp) := hB.cell 0
    have cx0 : W.cell? ⟨bx, 0, none⟩ = some (kT x.1) := hX.cell 0
    have cx1 : W.cell? ⟨bx, 1, none⟩ = some (vT x.2) := hX.cell 1
    have HX := Lib.hid hX
    have HB := Lib.hid hB
    have HL := Lib.hid hL
    have HK := Lib.hid hk
    have hks := hk.size
    clear hB hL hk hX
    obtain ⟨pk, pv⟩ := x
    unfold kT at cx0
    unfold vT at cx1
    unfold kT vT
    obtain ⟨i2, hi2, hz2, hs2, hb2⟩ := info_parts' pairT_info
    gi_wp2_with (gi_at_builtin; refine wpListIn_append_lst _ rfl (.tmp 7) (.tmp 9) _ rfl w.heap.size 145 i2 _ 2 24 Tryz.underlying128 hi2 hz2 hs2 hb2 rfl _ pre.length (cellsT pre) rfl (HL.out.alloc _) ⟨W.heap.size, 0, none⟩ 1 1 [.string pk, .int .i64 pv] rfl rfl (World.news_of_block (heap_alloc_new _ _)) ?c2 ?c3 ?c4 ?c5 ?c6)
    case c2 => simp [Value.oneCell']
    case c3 => unfold maxLen; omega
    case c4 => omega
    case c5 => first | omega | (simp; omega)
    case c6 =>
      intro v2 w7 hown hgrow hat
      have hne : ∀ j, (Value.slice A pre.length cp).ownBlock = some j → j ≠ w.heap.size := HL.out.ne_bk HB.out (by decide)
      have hlt := HL.out.lt
      have hfr : Fr (Value.slice A pre.length cp).ownBlock.toList W w7 := ((Fr.refl _ _).alloc _).grown hgrow (fun j hj => .inl (by simp [hj]))
      have HB7 := Lib.hid (HB.out.fr hfr (fun hx => hne _ (by simpa using hx) rfl))
      have HL7 : Hid (Lst w7 w.heap.size 145 2 v2 (pre.length + 1) (cellsT pre ++ [kT pk, vT pv])) := hown
      have HK7 : Hid (Kb w.heap.size [] W w7) := hfr.kb (fun y hy => .inr (hlt y (by simpa using hy)).1)
      have HG7 : Hid (KeepsFrom w1.heap.size W w7) := hfr.keeps (fun y hy => by
        obtain ⟨cs, hcs⟩ := HL.out.bk (k := y) (by simpa using hy)
        exact ⟨_, cs, hcs⟩)
      have cz := HB7.out.cell 0
      have fz := HB7.out.free 0
      obtain ⟨A2, cap2, rfl, _, _⟩ := HL7.out.look
      clear hown hgrow hat hfr hne hlt c1
      gi_wp2
      have hne2 : ∀ j, (Value.slice A2 (pre.length + 1) cap2).ownBlock = some j → j ≠ w.heap.size := HL7.out.ne_bk HB7.out (by decide)
      have hset : Fr [w.heap.size] w7 (w7.setCell ⟨w.heap.size, 0, none⟩ (.slice A2 (pre.length + 1) cap2)) := (Fr.refl _ _).setCell (by simp) _
      have hks2 : Kb w.heap.size [] w7 (w7.setCell ⟨w.heap.size, 0, none⟩ (.slice A2 (pre.length + 1) cap2)) := hset.kb (by simp)
      refine ⟨?_, HK7.out.trans hks2, _, HB7.out.put 0 _, ?_, HK.out.trans (HK7.out.trans hks2)⟩
      · rw [← hsz]
        exact HG7.out.trans (hset.keeps (fun y hy => by cases List.mem_singleton.1 hy; exact ⟨_, _, HB7.out⟩))
      · have := HL7.out.far (p := ⟨w.heap.size, 0, none⟩) hne2 (.slice A2 (pre.length + 1) cap2)
        unfold cellsT at this ⊢
        rw [cells2_append, List.length_append]
        exact this
  case done =>
    rintro D xs W hD rfl ⟨v, hB, hL, hk⟩ hK
    have c1 : W.cell? ⟨w.heap.size, 0, none⟩ = some v := hB.cell 0
    gi_wp2
    refine ⟨by simp, .inl ⟨_, _, rfl, run_takeDeferred hK, ?_⟩⟩
    have hg := grownBy_putObj' W D (.deferred none)
    have hnc : ∀ r, some D = some r → ∃ o : Obj, W.heap[r]? = some o ∧ o.isCells = false := fun r e => by cases e; exact ⟨_, hK, rfl⟩
    refine ⟨_, results_tmp rfl _ _ _, v, rfl, lst_kept hL hg hnc, ?_⟩
    exact (hk.trans (kb_of_grown hg (fun r e => by cases e; omega))).fr
end Go.Proofs.YtdjaalkbpdmdgaaGreat
namespace Go.Proofs.YtdjaalkbpdmdgaaGreat
open Go.RowKit Go.Shelf
set_option linter.unusedVariables false
set_option maxRecDepth 100000 in
set_option maxHeartbeats 1600000 in
theorem giveT (gy : Nat) (caps : Array Value) (b0 n₀ : Nat) (T : List Nat) (v : Value) (l : List PT) (hl2 : l.length ≤ 1000000000) (eg : ∀ args w, (callFunc gy args).run Tryz.prog w = .ok (.enter gy args) w)
    (hv : ∀ k, v.ownBlock = some k → k < n₀ ∧ k ∉ T) (U Ux : List PT → World → Prop) (hJa : ∀ pre W o, U pre W → U pre (W.alloc o)) (W : World)
    (hY : ∀ pre (x : PT) W1, pre ++ [x] <+: l → Kb n₀ T W W1 → U pre W1 → Calls Tryz.prog gy (#[.agg #[kT x.1, vT x.2]] ++ caps) W1 (Usr n₀ T U Ux pre x W1))
    (hL : Lst W b0 145 2 v l.length (cellsT l)) (h0 : U [] W) :
    Calls Tryz.prog 108 #[v, .func (.func gy) #[] caps] W (Given n₀ T U Ux l W) := by
  obtain ⟨m, hm⟩ : ∃ m, l.length = m := ⟨_, rfl⟩
  rw [hm] at hL hl2
  obtain ⟨A, cp, rfl, _, _⟩ := hL.look
  have HL := Lib.hid hL
  have HY := Lib.hid hY
  have HM := Lib.hid hm
  have HV := Lib.hid hv
  have HJA := Lib.hid hJa
  clear hJa
  clear hL hY hm hv
  go_enter Tryz.func108, Tryz.ntmps108
  go_wp2_with fail
  go_loopw [8] (fun u wr => ∃ k : Nat, k ≤ m ∧ u = .int .i64 k ∧ Hid (U (l.take k) wr) ∧ Hid (Kb n₀ T W wr)) (fun u _ => m - (intOf u).toNat)
  case atStart => exact ⟨0, Nat.zero_le _, rfl, h0, Kb.refl _ _ _⟩
  case round =>
    obtain ⟨q, hk, rfl, HJ, HK⟩ := hrel
    by_cases hlt : q < m
    · have hd : decide ((q : Int) < (m : Int)) = true := decide_eq_true (by omega)
      obtain ⟨x, hx⟩ : ∃ x, l[q]? = some x := ⟨_, List.getElem?_eq_getElem (by have := HM.out; omega)⟩
      have hLr := HK.out.lst HL.out HV.out
      obtain ⟨gs, off, cp', hv, _, _, _, _, _, _, hcell⟩ := hLr.form (by omega)
      injection hv with hv1 _ hv3
      subst hv1
      have hnext : l.take q ++ [x] = l.take (q + 1) := by
        obtain ⟨h1, h2⟩ := List.getElem?_eq_some_iff.1 hx
        rw [List.take_succ_eq_append_getElem h1, h2]
      have hpre : l.take q ++ [x] <+: l := by rw [hnext]; exact List.take_prefix _ _
      obtain ⟨pk, pv⟩ := x
      obtain ⟨ck, cv⟩ := cells2_at (fun p : PT => kT p.1) (fun p => vT p.2) l q (pk, pv) hx
      have ck := hcell _ _ ck
      have cv := hcell _ _ cv
      rw [← Nat.add_assoc] at cv
      unfold kT at ck
      unfold vT at cv
      have i0 : (0 : Int) ≤ (q : Int) := by omega
      have i1 : (q : Int) < (m : Int) := by omega
      obtain ⟨z, hz⟩ : ∃ z, z = wr.alloc (.cells #[.string pk, .int .i64 pv] 145) := ⟨_, rfl⟩
      have hJz : U (l.take q) z := by rw [hz]; exact HJA.out _ _ _ HJ.out
      have HZK : Hid (Kb n₀ T wr z) := by rw [hz]; exact ((Fr.refl [] wr).alloc _).kb (by simp)
      have hcall := HY.out (l.take q) (pk, pv) z hpre (HK.out.trans HZK.out) hJz
      have HN := Lib.hid hnext
      have HC := Lib.hid hcall
      clear hcell hv3 hx hLr hnext hcall hpre
      go_wp2_with fail
      rw [← hz]
      refine (Calls.mono HC.out ?_)
      rintro e W3 ⟨b, rfl, hk3, hu, hux⟩
      have HK3 : Hid (Kb n₀ T W W3) := (HK.out.trans HZK.out).trans hk3
      cases b with
      | true =>
        have HJ3 := Lib.hid (hu rfl)
        clear hu hux hk3 HZK HC
        go_wp2_with fail
        go_roundw
        case rel => exact ⟨q + 1, by omega, by go_num, (by show U (l.take (q + 1)) W3; rw [← HN.out]; exact HJ3.out), HK3.out⟩
        case measure => simp [intOf]; omega
      | false =>
        have HJ3 := Lib.hid (hux rfl)
        clear hu hux hk3 HZK HC
        go_wp2_with fail
        go_end0
        exact ⟨rfl, HK3.out, .inr ⟨_, List.take_prefix (q + 1) l, by rw [← HN.out]; exact HJ3.out⟩⟩
    · obtain rfl : q = m := by omega
      have hd : decide ((q : Int) < (q : Int)) = false := decide_eq_false (by omega)
      go_wp2_with fail
      go_end0
      refine ⟨rfl, HK.out, .inl ?_⟩
      have := HJ.out
      rw [List.take_of_length_le (by rw [HM.out]; exact Nat.le_refl _)] at this
      exact this

set_option maxRecDepth 100000 in
set_option maxHeartbeats 1600000 in
theorem tableT_all11 (n₀ : Nat) (T : List Nat) (U Ux : List PT → World → Prop) (pre : List PT) (gy : Nat) (caps : Array Value) (bx : Nat) (k : ByteArray) (v : Int) (w : World) (hX : w.cell? ⟨bx, 0, none⟩ = some (.func (.func gy) #[] caps))
    (eg : ∀ args w, (callFunc gy args).run Tryz.prog w = .ok (.enter gy args) w)
    (hY : ∀ o, Calls Tryz.prog gy (#[kT k, vT v] ++ caps) (w.alloc o) (Usr n₀ T U Ux pre (k, v) (w.alloc o))) :
    Calls Tryz.prog 111 #[.agg #[kT k, vT v], .pointer (some ⟨bx, 0, none⟩)] w (Usr n₀ T U Ux pre (k, v) w) := by
  have HY := Lib.hid hY
  clear hY
  have hbl := block_lt_of_cell hX
  have hx2 : ∀ o, (w.alloc o).cell? ⟨bx, 0, none⟩ = some (.func (.func gy) #[] caps) := fun o => (World.cell?_of_block (((Fr.refl [] w).alloc o).block bx hbl (by simp))).trans hX
  unfold kT vT at *
  go_enter Tryz.func111, Tryz.ntmps111
  go_wp2_with fail
  refine (Calls.mono (HY.out _) ?_)
  rintro e w2 ⟨b, rfl, hk2, h1, h2⟩
  have HK2 := Lib.hid hk2
  have H1 := Lib.hid (And.intro h1 h2)
  clear hk2 h1 h2
  go_wp2_with fail
  go_ret
  exact ⟨b, rfl, (((Fr.refl [] w).alloc _).kb (by simp)).trans HK2.out, H1.out⟩

theorem tableT_all (g : Nat) (w : World) :
    Calls Tryz.prog 97 #[.pointer (some ⟨g, 0, none⟩)] w fun e w' => e = .returned (.func (.func 107) #[] #[.pointer (some ⟨w.heap.size, 0, none⟩)]) ∧ w' = w.alloc (.cells #[.pointer (some ⟨g, 0, none⟩)] 41) := by
  go_enter Tryz.func97, Tryz.ntmps97
  go_wp2_with fail
  go_ret
  exact ⟨rfl, rfl⟩

theorem tableT_hands (b0 g : Nat) (v : Value) (l : List PT) (hl : l.length ≤ 1000000) (w z : World) (hS : TbT b0 w g v l) (hf : Fr [] w z) :
    Hands Fence.wide 5 Tryz.prog 110 #[.pointer (some ⟨g, 0, none⟩)] (fun x : PT => #[.agg #[kT x.1, vT x.2]]) (Kb w.heap.size []) (fun xs => xs = l) 1000001 z := by
  intro lp J W hB hJ hY h0
  have hSW : TbT b0 W g v l := hS.fr (hf.trans (below_fr hB) (by simp)) (by simp) (by simp)
  exact tableTEach_in 5 (by omega) lp b0 g w.heap.size 1000001 [] v l (by omega) (by omega) (fun k hk => ⟨(hS.L.lt k hk).2, by simp⟩) J (fun pre W1 o hj => hJ pre W1 (W1.alloc o) none hj (World.grownBy_alloc W1 o none) (by simp)) hY W hSW h0

set_option maxRecDepth 100000 in
set_option maxHeartbeats 1600000 in
theorem tableT_all1 (b0 g : Nat) (v : Value) (l : List PT) (hl : l.length ≤ 1000000) (w : World) (hS : TbT b0 w g v l) (bm gy : Nat) (caps : Array Value) (c0 : w.cell? ⟨bm, 0, none⟩ = some (.pointer (some ⟨g, 0, none⟩)))
    (eg : ∀ args w, (callFunc gy args).run Tryz.prog w = .ok (.enter gy args) w) (T : List Nat) (hT : ∀ x ∈ T, x < w.heap.size) (U Ux : Nat → List PT → World → Prop) (hUa : ∀ n₀ pre W o, U n₀ pre W → U n₀ pre (W.alloc o))
    (hU0 : ∀ n₀ W, w.heap.size ≤ n₀ → n₀ = W.heap.size → Fr [] w W → U n₀ [] W)
    (hY : ∀ n₀ pre (x : PT) W, w.heap.size ≤ n₀ → n₀ ≤ W.heap.size → pre ++ [x] <+: l → Kb n₀ T w W → U n₀ pre W → Calls Tryz.prog gy (#[kT x.1, vT x.2] ++ caps) W (Usr n₀ T (U n₀) (Ux n₀) pre x W)) :
    Calls Tryz.prog 107 #[.func (.func gy) #[] caps, .pointer (some ⟨bm, 0, none⟩)] w (AllOk w T U Ux (l)) := by
  have HS := Lib.hid hS
  have HL := Lib.hid hl
  have HT := Lib.hid hT
  have HU0 := Lib.hid hU0
  have HY := Lib.hid hY
  have hbl := block_lt_of_cell c0
  have HEG := Lib.hid eg
  have HUA := Lib.hid hUa
  clear hUa
  clear hS hl hT hU0 hY eg
  go_enter Tryz.func107, Tryz.ntmps107
  go_wp2_with fail
  obtain ⟨z, hz⟩ : ∃ z, z = w.alloc (.cells #[.func (.func gy) #[] caps] 115) := ⟨_, rfl⟩
  have hS := HS.out
  have hfz : Fr [] w z := by rw [hz]; exact (Fr.refl _ _).alloc _
  have hzb : w.heap.size < z.heap.size := by rw [hz]; simp
  have HBX : Hid (Bk z w.heap.size 115 #[.func (.func gy) #[] caps]) := by rw [hz]; exact Bk.new _ _ _
  have HFZ := Lib.hid hfz
  have HSZ := Lib.hid (hS.fr hfz (by simp) (by simp))
  rw [← hz]
  clear hz hfz
  refine (gatherT 110 #[.pointer (some ⟨g, 0, none⟩)] l z (enters_of Tryz.func110 (by kernel_rfl) rfl) (fun z' hz' => tableT_hands b0 g v l HL.out z z' HSZ.out hz')).mono ?_
  rintro e w1 ⟨vl, rfl, hL1, hf1⟩
  have HL1 := Lib.hid hL1
  have HF1 := Lib.hid (HFZ.out.trans hf1 (by simp))
  have HBX1 := Lib.hid (HBX.out.fr hf1 (by simp))
  have hq1 := hf1.size
  have hq2 := HFZ.out.size
  clear hL1 hf1
  go_wp2_with fail
  refine (giveT 111 #[.pointer (some ⟨w.heap.size, 0, none⟩)] z.heap.size w1.heap.size T vl l (by have := HL.out; omega) (enters_of Tryz.func111 (by kernel_rfl) rfl) (fun k hk => ⟨(HL1.out.lt k hk).2, fun hx => by have := (HL1.out.lt k hk).1; have := HT.out k hx; omega⟩) (U w1.heap.size) (Ux w1.heap.size) (HUA.out w1.heap.size) w1
    (fun pre x W1 h1 h2 h3 => tableT_all11 w1.heap.size T (U w1.heap.size) (Ux w1.heap.size) pre gy caps w.heap.size x.1 x.2 W1 ((h2.bk HBX1.out HBX1.out.lt (fun hx => by have := HT.out _ hx; omega)).cell 0) HEG.out
      (fun o => HY.out w1.heap.size pre x (W1.alloc o) HF1.out.size (by have := h2.size; simp; omega) h1 (((HF1.out.kb (by simp)).trans h2).trans (((Fr.refl [] W1).alloc o).kb (by simp))) (HUA.out _ _ _ _ h3))) HL1.out (HU0.out w1.heap.size w1 HF1.out.size rfl HF1.out)).mono ?_
  rintro e w2 ⟨rfl, hk2, hu2⟩
  have HK2 := Lib.hid hk2
  have HU2 := Lib.hid hu2
  clear hk2 hu2
  go_wp2_with fail
  go_end0
  exact ⟨rfl, (((HF1.out.kb (n₀ := w1.heap.size) (by simp)).trans HK2.out).mono HF1.out.size).fr, w1.heap.size, HF1.out.size, HK2.out.size, HU2.out⟩

def encT (x : PT) : Array Value := #[kT x.1, vT x.2]
theorem TbT.lt {b0 : Nat} {w : World} {g : Nat} {v : Value} {l : List PT} (h : TbT b0 w g v l) : ∀ x ∈ skT g v, x < w.heap.size := by
  intro x hx
  simp only [skT, List.mem_cons, Option.mem_toList] at hx
  rcases hx with rfl | hx
  · exact h.B.lt
  · exact (h.L.lt x hx).2
theorem tableT_seq (b0 g bm : Nat) (v : Value) (l : List PT) (hl : l.length ≤ 1000000) (w : World) (hS : TbT b0 w g v l) (hB : Bk w bm 41 #[.pointer (some ⟨g, 0, none⟩)]) :
    Seq Tryz.prog 107 #[.pointer (some ⟨bm, 0, none⟩)] l encT (bm :: skT g v) w := by
  refine ⟨fun x hx => by rcases List.mem_cons.1 hx with rfl | h; exact hB.lt; exact hS.lt x h, fun w' hs gy caps eg T hT U Ux hUa hU0 hY => ?_⟩
  exact tableT_all1 b0 g v l hl w' (hS.fr hs.fr (Sm.off (by simp [skT])) (fun k hk => Sm.off (by simp [skT, hk]))) bm gy caps ((hB.fr hs.fr (Sm.off (by simp))).cell 0) eg T hT U Ux hUa hU0 hY
end Go.Proofs.YtdjaalkbpdmdgaaGreat
namespace Go.Proofs.YtdjaalkbpdmdgaaGreat
open Go.RowKit Go.Shelf
set_option linter.unusedVariables false


/-- What the closure reads. -/
structure CwT (n₁ b0 gd gr bw bk bd bi bs i u : Nat) (stop : Int) (kv vv : Value) (l r : List PT) (W : World) : Prop where
  w : Bk W bw 3 #[.int .i64 (u : Nat)]
  k : ∃ v, Bk W bk 72 #[v] ∧ Lst W n₁ 9 1 v (keysT l).length (sV (keysT l))
  d : Bk W bd 26 #[.pointer (some ⟨gd, 0, none⟩)]
  ix : Bk W bi 3 #[.int .i64 (i : Nat)]
  s : Bk W bs 3 #[.int .i64 stop]
  c : W.cell? ⟨gd, 18 + i, none⟩ = some (.pointer (some ⟨gr, 0, none⟩))
  r : Rw 74 9 3 b0 W gr kv vv (rkT r) (rvT r)
set_option maxRecDepth 100000 in
set_option maxHeartbeats 1600000 in
theorem nameAll1 (n₀ n₁ b0 gd gr bo bn bw bk bd bi bs i u : Nat) (stop : Int) (kv vv : Value) (l r : List PT) (pre : List PT) (xk : ByteArray) (xv : Int) (W : World) (hR : RlT l r) (hl : l.length ≤ 100000) (hA : Aw bo bn stop false pre W) (hp : pre ++ [(xk, xv)] <+: l) (hu : stopN l.length stop = u) (hi : i < 2)
    (hC : ∀ Z, Fr [bo, bn] W Z → CwT n₁ b0 gd gr bw bk bd bi bs i u stop kv vv l r Z) (hnn : bw ≠ bn ∧ bi ≠ bn ∧ bs ≠ bn) :
    Calls Tryz.prog 99 #[.string xk, .int .i64 xv, .pointer (some ⟨bo, 0, none⟩), .pointer (some ⟨bn, 0, none⟩), .pointer (some ⟨bw, 0, none⟩), .pointer (some ⟨bk, 0, none⟩), .pointer (some ⟨bd, 0, none⟩), .pointer (some ⟨bi, 0, none⟩), .pointer (some ⟨bs, 0, none⟩)] W
      (Usr n₀ [bo, bn] (Aw bo bn stop false) (Aw bo bn stop true) pre (xk, xv) W) := by
  have hc := hC W (Fr.refl _ _)
  obtain ⟨ksv, hK, hKL⟩ := hc.k
  obtain ⟨m, hm⟩ : ∃ m, l.length = m := ⟨_, rfl⟩
  have hkm : (keysT l).length = m := by unfold keysT; rw [List.length_map]; exact hm
  rw [hkm] at hKL
  obtain ⟨p, hpp⟩ : ∃ p, pre.length = p := ⟨_, rfl⟩
  have hlp : l[p]? = some (xk, xv) := by
    obtain ⟨t, rfl⟩ := hp
    rw [List.append_assoc, List.getElem?_append_right (by omega), hpp, Nat.sub_self]
    rfl
  have hpm : p < m := by rw [← hm]; exact (List.getElem?_eq_some_iff.1 hlp).1
  have hg : stop < 1 ∨ (p : Int) < stop := by have := hA.g rfl; rw [hpp] at this; exact this
  have hpu : p < u := by
    rw [← hu, hm]
    unfold stopN
    split <;> omega
  have hum : u ≤ m := by rw [← hu, hm]; exact stopN_le _ _
  have hget : gtT l xk = some xv := (rise_getT hR.rise xk xv).2 (List.mem_of_getElem? hlp)
  have HG : Hid (∀ Z, Rw 74 9 3 b0 Z gr kv vv (rkT r) (rvT r) → Calls Tryz.prog 69 #[.pointer (some ⟨gr, 0, none⟩), .string xk] Z fun e w' => e = .returned (.tuple #[.int .i64 xv, .bool true]) ∧ Z = w') := fun Z hz => by
    refine (nget_same b0 gr kv vv r xk Z hz (by rw [← hR.len]; omega)).mono ?_
    rintro e w' ⟨h2, h3⟩
    rw [← hR.get, hget] at h2
    exact ⟨h2, h3⟩
  obtain ⟨gl, off, cap, hv, _, _, _, _, _, _, hcl⟩ := hKL.form (by omega)
  have cx := hcl p (.string xk : Value) (sV_at (by unfold keysT; rw [List.getElem?_map, hlp]; rfl))
  subst hv
  have co : W.cell? ⟨bo, 0, none⟩ = some (.bool true) := hA.O.cell 0
  have cn : W.cell? ⟨bn, 0, none⟩ = some (.int .i64 (p : Nat)) := by rw [← hpp]; exact hA.N.cell 0
  have cw : W.cell? ⟨bw, 0, none⟩ = some (.int .i64 (u : Nat)) := hc.w.cell 0
  have ck : W.cell? ⟨bk, 0, none⟩ = some (.slice (some ⟨gl, off, none⟩) m cap) := hK.cell 0
  have fo := hA.O.free 0
  have fn := hA.N.free 0
  have n1 : bs ≠ bo := hc.s.ne hA.O (by decide)
  have n2 : bs ≠ bn := hnn.2.2
  have n3 : bn ≠ bo := hA.N.ne hA.O (by decide)
  have n4 := n3.symm
  have HWR : Hid (wrap64 ((p : Int) + 1) = (p : Int) + 1) := IntWalk.wrap64_in _ (by omega)
  obtain ⟨z, hz⟩ : ∃ z, z = W.setCell ⟨bo, 0, none⟩ (.bool true) := ⟨_, rfl⟩
  have hfz : Fr [bo] W z := by rw [hz]; exact (Fr.refl _ _).setCell (by simp) _
  have hcz := hC z (hfz.mono (by simp))
  have HRZ : Hid (∀ n, Rw 74 9 3 b0 (z.drewN n) gr kv vv (rkT r) (rvT r)) := fun n => hcz.r.fr ((Fr.refl [] z).drewN n) (by simp)
  have HZO : Hid (Bk z bo 4 #[.bool true]) := by rw [hz]; exact hA.O.put 0 (.bool true)
  have HZN : Hid (Bk z bn 3 #[.int .i64 (p : Nat)]) := by rw [← hpp]; exact hA.N.fr hfz (by simpa using n3)
  have zd : z.cell? ⟨bd, 0, none⟩ = some (.pointer (some ⟨gd, 0, none⟩)) := hcz.d.cell 0
  have zi : z.cell? ⟨bi, 0, none⟩ = some (.int .i64 (i : Nat)) := hcz.ix.cell 0
  have zs : z.cell? ⟨bs, 0, none⟩ = some (.int .i64 stop) := hcz.s.cell 0
  have zc := hcz.c
  have zo : z.cell? ⟨bo, 0, none⟩ = some (.bool true) := HZO.out.cell 0
  have zn : z.cell? ⟨bn, 0, none⟩ = some (.int .i64 (p : Nat)) := HZN.out.cell 0
  have zfo := HZO.out.free 0
  have zfn := HZN.out.free 0
  have HFZ := Lib.hid hfz
  have HZ := Lib.hid hz
  have i0 : (0 : Int) ≤ (i : Int) := by omega
  have i1 : (i : Int) < 2 := by omega
  have p0 : (0 : Int) ≤ (p : Int) := by omega
  have p1 : (p : Int) < (m : Int) := by omega
  have d1 : decide ((p : Int) < (u : Int)) = true := decide_eq_true (by omega)
  have d2 : decide (p < u) = true := decide_eq_true (by omega)
  have d3 : ((p : Int) < (u : Int)) := by omega
  have e1 : (xk.toList == xk.toList) = true := by simp
  have e2 : (xv == xv) = true := by simp
  have HPP := Lib.hid hpp
  have FIN : ∀ (b : Bool) (n : Nat), Hid (b = decide ((p : Int) + 1 = stop) → Usr n₀ [bo, bn] (Aw bo bn stop false) (Aw bo bn stop true) pre (xk, xv) W (.returned (.bool (!b))) (((z.drewN n).setCell ⟨bo, 0, none⟩ (.bool true)).setCell ⟨bn, 0, none⟩ (.int .i64 ((p : Int) + 1)))) := fun b n hb => by
    have s0 : Fr [] z (z.drewN n) := (Fr.refl [] z).drewN n
    have s1 : Fr [bo] (z.drewN n) ((z.drewN n).setCell ⟨bo, 0, none⟩ (.bool true)) := (Fr.refl _ _).setCell (by simp) _
    have s2 : Fr [bn] ((z.drewN n).setCell ⟨bo, 0, none⟩ (.bool true)) (((z.drewN n).setCell ⟨bo, 0, none⟩ (.bool true)).setCell ⟨bn, 0, none⟩ (.int .i64 ((p : Int) + 1))) := (Fr.refl _ _).setCell (by simp) _
    have hO := ((HZO.out.fr s0 (by simp)).put 0 (.bool true)).fr s2 (by simpa using n4)
    have hN := ((HZN.out.fr s0 (by simp)).fr s1 (by simpa using n3)).put 0 (.int .i64 ((p : Int) + 1))
    have hlen : (((pre ++ [(xk, xv)]).length : Nat) : Int) = (p : Int) + 1 := by rw [List.length_append, HPP.out]; simp
    have hk : ∀ c : Bool, c = b → Aw bo bn stop c (pre ++ [(xk, xv)]) (((z.drewN n).setCell ⟨bo, 0, none⟩ (.bool true)).setCell ⟨bn, 0, none⟩ (.int .i64 ((p : Int) + 1))) := fun c hcb => by
      refine ⟨hO, by rw [hlen]; exact hN, fun h => ?_, fun h => ?_⟩
      · rw [hcb] at h
        rw [h] at hb
        have := of_decide_eq_false hb.symm
        rw [hlen]
        omega
      · rw [hcb] at h
        rw [h] at hb
        have := of_decide_eq_true hb.symm
        rw [hlen]
        exact ⟨this, by simp⟩
    refine ⟨!b, rfl, ((HFZ.out.kb (by simp)).trans (s0.kb (by simp))).trans ((s1.kb (by simp)).trans (s2.kb (by simp))), fun h => hk false ?_, fun h => hk true ?_⟩
    · cases b <;> simp_all
    · cases b <;> simp_all
  clear hc hK hKL hm hkm hpp hlp hpu hum hget hcl hfz hcz hA hp hu hC hnn hR hl hg
  have hw := HWR.out
  go_enter Tryz.func99, Tryz.ntmps99
  go_upto_region 2 with fail
  rw [← HZ.out]
  clear hz co cn cw ck cx fo fn
  go_wp2_with fail
  go_quiet ((go_at_call 69; exact qleft (HG.out _ (HRZ.out _))))
  clear zd zi zc
  by_cases hst : (p : Int) + 1 = stop
  · have q1 : ((p : Int) + 1 == stop) = true := by simpa using hst
    have q2 : ((p : Int) + 1 != stop) = false := by simpa using hst
    have HQ := Lib.hid (decide_eq_true hst)
    clear hst
    have F := FIN true
    clear FIN
    go_wp2_with fail
    go_ret
    exact (F _).out HQ.out.symm
  · have q1 : ((p : Int) + 1 == stop) = false := by simpa using hst
    have q2 : ((p : Int) + 1 != stop) = true := by simpa using hst
    have HQ := Lib.hid (decide_eq_false hst)
    clear hst
    have F := FIN false
    clear FIN
    go_wp2_with fail
    go_ret
    exact (F _).out HQ.out.symm
end Go.Proofs.YtdjaalkbpdmdgaaGreat
namespace Go.Proofs.YtdjaalkbpdmdgaaGreat
open Go.RowKit Go.Shelf
set_option linter.unusedVariables false

theorem CwT.fr {n₁ b0 gd gr bw bk bd bi bs i u : Nat} {stop : Int} {kv vv : Value} {l r : List PT} {W Z : World} {cs : Array Value} (h : CwT n₁ b0 gd gr bw bk bd bi bs i u stop kv vv l r W) (hD : Bk W gd 52 cs) (hf : Fr [] W Z) : CwT n₁ b0 gd gr bw bk bd bi bs i u stop kv vv l r Z := by
  obtain ⟨v, h1, h2⟩ := h.k
  exact ⟨h.w.fr hf (by simp), ⟨v, h1.fr hf (by simp), h2.fr hf (by simp)⟩, h.d.fr hf (by simp), h.ix.fr hf (by simp), h.s.fr hf (by simp), by rw [(hD.fr hf (by simp)).cell, ← hD.cell]; exact h.c, h.r.fr hf (by simp)⟩

set_option maxRecDepth 100000 in
set_option maxHeartbeats 3200000 in
theorem nameAll_any (b0 gd gs gr i : Nat) (cs : Array Value) (v kv vv : Value) (l r : List PT) (stop : Int) (w : World) (hi : i < 2) (hd : Bk w gd 52 cs) (hc0 : cs[8 + i]? = some (.pointer (some ⟨gs, 0, none⟩))) (hc1 : cs[18 + i]? = some (.pointer (some ⟨gr, 0, none⟩)))
    (hT : TbT b0 w gs v l) (hQ : Rw 74 9 3 b0 w gr kv vv (rkT r) (rvT r)) (hR : RlT l r) (hl : l.length ≤ 100000) :
    Calls Tryz.prog 75 #[.pointer (some ⟨gd, 0, none⟩), .int .i64 stop, .int .i64 i] w fun e w' => e = .returned (.bool true) ∧ Fr [] w w' := by
  obtain ⟨kb, hkb⟩ : ∃ kb, w.heap.size = kb := ⟨_, rfl⟩
  obtain ⟨y, hy⟩ : ∃ y, y = ((w.alloc (.cells #[.pointer (some ⟨gd, 0, none⟩)] 26)).alloc (.cells #[.int .i64 stop] 3)).alloc (.cells #[.int .i64 i] 3) := ⟨_, rfl⟩
  have hfy : Fr [] w y := by rw [hy]; exact (((Fr.refl [] w).alloc _).alloc _).alloc _
  have HY := Lib.hid hy
  have HFY := Lib.hid hfy
  have hyd : Bk y kb 26 #[.pointer (some ⟨gd, 0, none⟩)] := by rw [hy]; exact ((Bk.new_at _ _ _ _ hkb).alloc _).alloc _
  have hys : Bk y (kb + 1) 3 #[.int .i64 stop] := by rw [hy]; exact (Bk.new_at _ _ _ _ (by simp; exact hkb)).alloc _
  have hyi : Bk y (kb + 1 + 1) 3 #[.int .i64 i] := by rw [hy]; exact Bk.new_at _ _ _ _ (by simp; exact hkb)
  have HYD := Lib.hid hyd
  have HYS := Lib.hid hys
  have HYI := Lib.hid hyi
  have HD := Lib.hid (hd.fr hfy (by simp))
  have HTB := Lib.hid (hT.fr hfy (by simp) (by simp))
  have HRW := Lib.hid (hQ.fr hfy (by simp))
  have HR := Lib.hid hR
  have HLL := Lib.hid hl
  have HC0 := Lib.hid hc0
  have HC1 := Lib.hid hc1
  have HAL : Hid (∀ Z, Fr [] y Z → Calls Tryz.prog 97 #[.pointer (some ⟨gs, 0, none⟩)] Z fun e w' => ∃ bm, e = .returned (.func (.func 107) #[] #[.pointer (some ⟨bm, 0, none⟩)]) ∧ Fr [] y w' ∧ Bk w' bm 41 #[.pointer (some ⟨gs, 0, none⟩)]) := fun Z hz => by
    refine (tableT_all gs Z).mono ?_
    rintro e w' ⟨rfl, rfl⟩
    exact ⟨_, rfl, hz.alloc _, Bk.new _ _ _⟩
  have HLD : Hid (∀ Z, Fr [] y Z → Z.cell? ⟨kb, 0, none⟩ = some (.pointer (some ⟨gd, 0, none⟩)) ∧ Z.cell? ⟨kb + 1 + 1, 0, none⟩ = some (.int .i64 i) ∧ Z.cell? ⟨gd, 8 + i, none⟩ = some (.pointer (some ⟨gs, 0, none⟩)) ∧ Z.cell? ⟨gd, 18 + i, none⟩ = some (.pointer (some ⟨gr, 0, none⟩))) := fun Z hz =>
    ⟨(HYD.out.fr hz (by simp)).cell 0, (HYI.out.fr hz (by simp)).cell 0, by rw [(HD.out.fr hz (by simp)).cell]; exact HC0.out, by rw [(HD.out.fr hz (by simp)).cell]; exact HC1.out⟩
  have HKY : Hid (∀ Z, Fr [] y Z → Calls Tryz.prog 98 #[.pointer (some ⟨gr, 0, none⟩)] Z fun e w' => ∃ v, e = .returned v ∧ Lst w' y.heap.size 9 1 v (keysT l).length (sV (keysT l)) ∧ Fr [] y w' ∧ Fr [] Z w') := fun Z hz => by
    refine (nkeys_any b0 gr kv vv l r Z (HRW.out.fr hz (by simp)) HR.out (by rw [← HR.out.len]; have := HLL.out; omega)).mono ?_
    rintro e w' ⟨v, rfl, h1, h2⟩
    exact ⟨v, rfl, h1.mono hz.size, hz.trans h2 (by simp), h2⟩
  obtain ⟨e0, e1, e2, e3⟩ := HLD.out y (Fr.refl _ _)
  have i0 : (0 : Int) ≤ (i : Int) := by omega
  have i1 : (i : Int) < 2 := by omega
  have hkb0 := hkb
  clear hd hc0 hc1 hT hQ hR hl hfy hyd hys hyi hy
  go_enter Tryz.func75, Tryz.ntmps75
  go_upto_region 1 with fail
  rw [← HY.out]
  go_region_held3 (fun W => W.cell? ⟨kb, 0, none⟩ = some (.pointer (some ⟨gd, 0, none⟩)) ∧ W.cell? ⟨kb + 1 + 1, 0, none⟩ = some (.int .i64 i) ∧ W.cell? ⟨gd, 8 + i, none⟩ = some (.pointer (some ⟨gs, 0, none⟩))) ((first | (obtain ⟨q1, q2, q3, _⟩ := HLD.out _ (Fr.refl [] y).drew; exact ⟨q1, q2, q3⟩) | (obtain ⟨q1, q2, q3, _⟩ := HLD.out _ (by assumption); exact ⟨q1, q2, q3⟩)))
    ((first | (go_at_call 97; refine (HAL.out _ (Fr.refl [] y).drew).mono ?_; rintro en z1 ⟨bm, rfl, hz1, hb1⟩)))
  have HZ1 := Lib.hid hz1
  have HB1 := Lib.hid hb1
  have HSEQ := Lib.hid (tableT_seq b0 gs bm v l (by have := HLL.out; omega) z1 (HTB.out.fr HZ1.out (by simp) (by simp)) HB1.out)
  have hnf := eql_nilF 147 ⟨_, _, _, Tryz.underlying147⟩ (.func 107) #[] #[.pointer (some ⟨bm, 0, none⟩)] z1
  clear hz1 hb1 e0 e1 e2 e3
  go_upto_region 4 with fail
  clear hnf
  obtain ⟨e0, e1, _, e3⟩ := HLD.out z1 HZ1.out
  have l1 : gd < z1.heap.size := (HD.out.fr HZ1.out (by simp)).lt
  have l2 : kb < z1.heap.size := (HYD.out.fr HZ1.out (by simp)).lt
  have l3 : kb + 1 + 1 < z1.heap.size := (HYI.out.fr HZ1.out (by simp)).lt
  go_cut [8] from 22 to 28 (fun v8 wx => Hid (∃ bk v, v8 = .pointer (some ⟨bk, 0, none⟩) ∧ Bk wx bk 72 #[v] ∧ Lst wx y.heap.size 9 1 v (keysT l).length (sV (keysT l)) ∧ Fr [] z1 wx))
  case first =>
    go_region_with (go_at_call 98; refine (HKY.out _ (by first | exact HZ1.out | exact HZ1.out.trans (Fr.refl [] z1).drew (by simp) | exact HZ1.out.trans ((Fr.refl [] z1).drew.alloc _) (by simp))).mono ?_; rintro en zz ⟨kv2, rfl, hl2, hf2, hf3⟩; obtain ⟨e0, e1, _, e3⟩ := HLD.out _ hf2; obtain ⟨A8, cp8, rfl, _, _⟩ := hl2.look; try (have hb8 : Bk zz z1.heap.size 72 #[.slice none 0 0] := (by first | exact (Bk.new_at _ _ _ _ (by simp)).fr hf3 (by simp) | exact ((Bk.new _ _ _).fr (Fr.refl [] _).drew (by simp)).fr hf3 (by simp)); have c8 := hb8.cell 0; have f8 := hb8.free 0))
    all_goals
      try go_wp2_with fail
      go_meet
      case rel => first | exact Lib.hid ⟨_, _, rfl, Bk.new_at _ _ _ _ rfl, hl2.alloc _, (show Fr [] z1 zz by first | exact (Fr.refl [] z1).drew.trans hf3 (by simp) | exact ((Fr.refl [] z1).alloc _).drew.trans hf3 (by simp)).alloc _⟩ | exact Lib.hid ⟨_, _, rfl, hb8.put 0 _, hl2.fr ((Fr.refl [z1.heap.size] zz).setCell (by simp) _) (fun j hj hx => hl2.ne_bk hb8 (by decide) j hj (by simpa using hx)), (show Fr [] z1 zz by first | exact (Fr.refl [] z1).drew.trans hf3 (by simp) | exact ((Fr.refl [] z1).alloc _).drew.trans hf3 (by simp)).trans ((Fr.refl [z1.heap.size] zz).setCell (by simp) _) (fun x hx => .inr (by have e : x = z1.heap.size := (by simpa using hx); omega))⟩
  case rest =>
    obtain ⟨bk, ksv, rfl, hbk, hkl, hfk1⟩ := hcut.out
    have HZK := Lib.hid hfk1
    have hfk : Fr [] y wc := HZ1.out.trans hfk1 (by simp)
    clear hfk1
    clear hcut e0 e1 e3 l1 l2 l3
    obtain ⟨m, hm⟩ : ∃ m, l.length = m := ⟨_, rfl⟩
    have hkm : (keysT l).length = m := by unfold keysT; rw [List.length_map]; exact hm
    rw [hkm] at hkl
    obtain ⟨A9, cp9, rfl, _, _⟩ := hkl.look
    obtain ⟨uu, huu⟩ : ∃ uu, stopN m stop = uu := ⟨_, rfl⟩
    have HUP : Hid (∀ Z, Calls Tryz.prog 38 #[.int .i64 m, .int .i64 stop] Z fun e w' => e = .returned (.int .i64 (uu : Nat)) ∧ Z = w') := fun Z => by have := upTo_any m stop Z; rw [huu] at this; exact this
    have ck := hbk.cell 0
    have c4 : wc.cell? ⟨kb + 1, 0, none⟩ = some (.int .i64 stop) := (HYS.out.fr hfk (by simp)).cell 0
    obtain ⟨wn, hwn⟩ : ∃ n, wc.heap.size = n := ⟨_, rfl⟩
    have HWN := Lib.hid hwn
    have HKL := Lib.hid hkl
    have HFK := Lib.hid hfk
    have HBK := Lib.hid hbk
    have HM := Lib.hid hm
    have HKM := Lib.hid hkm
    have HUU := Lib.hid huu
    clear hbk hkl hfk hm hkm huu hwn
    go_upto_region 6 with ((go_at_call 38; refine (HUP.out _).mono ?_; rintro en z3 ⟨rfl, rfl⟩))
    rw [HWN.out]
    obtain ⟨xx, hxx⟩ : ∃ x, x = wc.alloc (.cells #[.int .i64 (uu : Nat)] 3) := ⟨_, rfl⟩
    have hfx : Fr [] wc xx := by rw [hxx]; exact (Fr.refl _ _).alloc _
    have hbw : Bk xx wn 3 #[.int .i64 (uu : Nat)] := by rw [hxx]; exact Bk.new_at _ _ _ _ HWN.out
    rw [← hxx]
    have hyx : Fr [] y xx := HFK.out.trans hfx (by simp)
    have hcw : CwT y.heap.size b0 gd gr wn bk kb (kb + 1 + 1) (kb + 1) i uu stop kv vv l r xx := ⟨hbw, ⟨_, HBK.out.fr hfx (by simp), by rw [HKM.out]; exact HKL.out.fr hfx (by simp)⟩, HYD.out.fr hyx (by simp), HYI.out.fr hyx (by simp), HYS.out.fr hyx (by simp), (HLD.out xx hyx).2.2.2, HRW.out.fr hyx (by simp)⟩
    have HCW : Hid (∀ Z, Fr [] xx Z → CwT y.heap.size b0 gd gr wn bk kb (kb + 1 + 1) (kb + 1) i uu stop kv vv l r Z) := fun Z hz => hcw.fr (HD.out.fr hyx (by simp)) hz
    have HYX := Lib.hid hyx
    have HXX : Hid (wn < xx.heap.size ∧ kb < xx.heap.size ∧ kb + 1 + 1 < xx.heap.size) := ⟨hbw.lt, (HYD.out.fr hyx (by simp)).lt, (HYI.out.fr hyx (by simp)).lt⟩
    have HZX : Hid (Fr [] z1 xx) := HZK.out.trans hfx (by simp)
    clear hxx hfx hbw hyx hcw ck c4
    go_wp2_with fail
    go_loopw [10] (fun i wr => ∃ k : Nat, k ≤ 2 ∧ i = .int .i64 k ∧ Hid (Fr [] xx wr)) (fun i _ => 2 - (intOf i).toNat)
    case atStart => exact ⟨0, by omega, rfl, Fr.refl _ _⟩
    case round =>
      obtain ⟨k, hk, rfl, HF⟩ := hrel
      by_cases hlt : k < 2
      · have hlt' : decide ((k : Int) < 2) = true := decide_eq_true (by omega)
        obtain ⟨rn, hrn⟩ : ∃ n, wr.heap.size = n := ⟨_, rfl⟩
        obtain ⟨z, hz⟩ : ∃ z, z = (wr.alloc (.cells #[.int .i64 0] 3)).alloc (.cells #[.bool true] 4) := ⟨_, rfl⟩
        have hfz : Fr [] wr z := by rw [hz]; exact ((Fr.refl _ _).alloc _).alloc _
        have hzn : Bk z rn 3 #[.int .i64 0] := by rw [hz]; exact (Bk.new_at _ _ _ _ hrn).alloc _
        have hzo : Bk z (rn + 1) 4 #[.bool true] := by rw [hz]; exact Bk.new_at _ _ _ _ (by simp; exact hrn)
        have ZN := Lib.hid hzn
        have ZO := Lib.hid hzo
        have ZF : Hid (Fr [] xx z) := HF.out.trans hfz (by simp)
        have hrx : xx.heap.size ≤ rn := by rw [← hrn]; exact HF.out.size
        have hsz : rn + 1 < z.heap.size := hzo.lt
        have ZS : Hid (Hand Tryz.prog 107 #[.pointer (some ⟨bm, 0, none⟩)] l encT z) := (HSEQ.out.sm (Sm.of_fr (HZX.out.trans ZF.out (by simp)) (fun x hx => ⟨HSEQ.out.1 x hx, by simp⟩))).hand
        have HZ := Lib.hid hz
        have HRN := Lib.hid hrn
        have hw9 := HXX.out.1
        have hk9 := HXX.out.2.1
        have hi9 := HXX.out.2.2
        clear hz hfz hzn hzo hrn
        go_upto_region 11 with fail
        rw [HRN.out, ← HZ.out]
        go_wp2_with fail
        refine (ZS.out 99 #[.pointer (some ⟨rn + 1, 0, none⟩), .pointer (some ⟨rn, 0, none⟩), .pointer (some ⟨wn, 0, none⟩), .pointer (some ⟨bk, 0, none⟩), .pointer (some ⟨kb, 0, none⟩), .pointer (some ⟨kb + 1 + 1, 0, none⟩), .pointer (some ⟨kb + 1, 0, none⟩)] (enters_of Tryz.func99 (by kernel_rfl) rfl)
          [rn + 1, rn] (by simp; omega) (fun _ => Aw (rn + 1) rn stop false) (fun _ => Aw (rn + 1) rn stop true) (fun _ _ _ o h => h.alloc o)
          (fun n₀ W h1 h2 h3 => ⟨ZO.out.fr h3 (by simp), ZN.out.fr h3 (by simp), fun _ => by simp; omega, fun h => by cases h⟩)
          (fun n₀ pre x W h1 h2 h3 h4 h5 => nameAll1 n₀ y.heap.size b0 gd gr (rn + 1) rn wn bk kb (kb + 1 + 1) (kb + 1) i uu stop kv vv l r pre x.1 x.2 W HR.out HLL.out h5 h3 (by rw [HM.out]; exact HUU.out) hi (fun Z hZ => HCW.out Z (fr_kb ZF.out (h4.trans (hZ.kb (by simp))) (by have := ZF.out.size; omega) (by simp; omega))) ⟨by omega, by omega, by omega⟩)).mono ?_
        rintro e w3 ⟨rfl, hf3, n₀, hn1, hn2, hu⟩
        obtain ⟨hO3, hN3⟩ := Aw.done hu
        rw [HM.out, HUU.out] at hN3
        have hf4 : Fr [] xx w3 := ZF.out.trans hf3 (by simp; omega)
        have cO := hO3.cell 0
        have cN := hN3.cell 0
        have cW := (HCW.out w3 hf4).w.cell 0
        have q1 : ((uu : Int) != (uu : Int)) = false := by simp
        have HF4 := Lib.hid hf4
        clear hf3 hu hO3 hN3 hf4 hsz hrx hn1 hn2
        go_wp2_with fail
        go_roundw
        case rel => exact ⟨k + 1, by omega, by go_num, HF4.out⟩
        case measure => simp [intOf]; omega
      · obtain rfl : k = 2 := by omega
        go_wp2_with fail
        go_ret
        exact ⟨rfl, (HFY.out.trans HYX.out (by simp)).trans HF.out (by simp)⟩
end Go.Proofs.YtdjaalkbpdmdgaaGreat
namespace Go.Proofs.YtdjaalkbpdmdgaaGreat
open Go.RowKit
set_option linter.unusedVariables false

set_option maxRecDepth 100000 in
set_option maxHeartbeats 1600000 in
theorem d_name_all {w0 w : World} {Ts : List (Th w0.heap.size)} {gd i gs gr ja jb : Nat} {cs : Array Value} {v kv vv : Value} {l r : List PT} (hi : i < 2) (h : Sg w0 Ts w) (hd : Ts[0]? = some (thBox w0.heap.size gd 52 cs)) (hc0 : cs[8 + i]? = some (.pointer (some ⟨gs, 0, none⟩))) (hc1 : cs[18 + i]? = some (.pointer (some ⟨gr, 0, none⟩))) (ha : Ts[ja]? = some (thTbT w0.heap.size gs v l)) (hb : Ts[jb]? = some (thRw 74 9 3 w0.heap.size gr kv vv (rkT r) (rvT r))) (hab : ja ≠ jb) (h0a : ja ≠ 0) (h0b : jb ≠ 0) (hR : RlT l r) (hL : l.length ≤ 100000) (s : Bool) (n : Int) (x : Int) (str : ByteArray) (stop : Int) :
    Calls Tryz.prog 24 #[.pointer (some ⟨gd, 0, none⟩), .agg #[.int .i64 26, .bool s, .int .i64 n, .int .u64 x, .string str, .int .i64 stop], .int .i64 i] w (DoM w0 Ts gs gr ja jb (l) (r)) := by
  have hla := (List.getElem?_eq_some_iff.1 ha).1
  have hlb := (List.getElem?_eq_some_iff.1 hb).1
  have hl0 := (List.getElem?_eq_some_iff.1 hd).1
  have hlr : r.length ≤ 100000 := by rw [← hR.len]; exact hL
  obtain ⟨kb, hkb⟩ : ∃ kb, w.heap.size = kb := ⟨_, rfl⟩
  obtain ⟨OP, hOP⟩ : ∃ OP : Array Value, #[.int .i64 26, .bool s, .int .i64 n, .int .u64 x, .string str, .int .i64 stop] = OP := ⟨_, rfl⟩
  have h1 := h.box 31 OP
  rw [hkb] at h1
  obtain ⟨Tx, hTx⟩ : ∃ Tx, Ts ++ [thBox w0.heap.size kb 31 OP] = Tx := ⟨_, rfl⟩
  rw [hTx] at h1
  have ta : Tx[ja]? = some (thTbT w0.heap.size gs v l) := by rw [← hTx, List.getElem?_append_left hla]; exact ha
  have tb : Tx[jb]? = some (thRw 74 9 3 w0.heap.size gr kv vv (rkT r) (rvT r)) := by rw [← hTx, List.getElem?_append_left hlb]; exact hb
  have t0 : Tx[0]? = some (thBox w0.heap.size gd 52 cs) := by rw [← hTx, List.getElem?_append_left hl0]; exact hd
  have tx : Tx[Ts.length]? = some (thBox w0.heap.size kb 31 OP) := by rw [← hTx, List.getElem?_append_right (Nat.le_refl _)]; simp
  obtain ⟨wa, hwa⟩ : ∃ wa, wa = w.alloc (.cells OP 31) := ⟨_, rfl⟩
  rw [← hwa] at h1
  have HOP : Hid (∀ Z, Bk Z kb 31 OP → Z.cell? ⟨kb, 0, none⟩ = some (.int .i64 26) ∧ Z.cell? ⟨kb, 2, none⟩ = some (.int .i64 n) ∧ Z.cell? ⟨kb, 3, none⟩ = some (.int .u64 x) ∧ Z.cell? ⟨kb, 4, none⟩ = some (.string str) ∧ Z.cell? ⟨kb, 5, none⟩ = some (.int .i64 stop)) := fun Z hz => by
    rw [← hOP] at hz
    exact ⟨hz.cell 0, hz.cell 2, hz.cell 3, hz.cell 4, hz.cell 5⟩
  have d0 : w.cell? ⟨gd, 8 + i, none⟩ = some (.pointer (some ⟨gs, 0, none⟩)) := by rw [(h.bk hd).cell]; exact hc0
  have d1 : w.cell? ⟨gd, 18 + i, none⟩ = some (.pointer (some ⟨gr, 0, none⟩)) := by rw [(h.bk hd).cell]; exact hc1
  have hgl : gd < w.heap.size := (h.bk hd).lt
  have d0' : wa.cell? ⟨gd, 8 + i, none⟩ = some (.pointer (some ⟨gs, 0, none⟩)) := by rw [(h1.bk t0).cell]; exact hc0
  have d1' : wa.cell? ⟨gd, 18 + i, none⟩ = some (.pointer (some ⟨gr, 0, none⟩)) := by rw [(h1.bk t0).cell]; exact hc1
  obtain ⟨e0, e2, e3, e4, e5⟩ := HOP.out wa (h1.bk tx)
  have i0 : (0 : Int) ≤ (i : Int) := by omega
  have i1 : (i : Int) < 2 := by omega
  have HWA := Lib.hid hwa
  have HOPE := Lib.hid hOP
  have HTX := Lib.hid hTx
  have H1 := Lib.hid h1
  have TA := Lib.hid ta
  have TB := Lib.hid tb
  have TX := Lib.hid tx
  have HLA : Hid (ja < Ts.length ∧ jb < Ts.length ∧ ja ≠ jb) := ⟨hla, hlb, hab⟩
  have HB0 := Lib.hid h1.fr.size
  have hkb0 := hkb
  have HC1 := Lib.hid (nameAll_any w0.heap.size gd gs gr i cs v kv vv l r stop wa hi (h1.bk t0) hc0 hc1 (h1.tbT_at ta) (h1.rw_at tb) hR hL)
  clear h hd hc0 hc1 ha hb hla hlb hl0 hab h0a h0b h1 ta tb t0 tx hOP hTx hwa hR hlr
  go_enter Tryz.func24, Tryz.ntmps24
  go_upto_region 1 with fail
  rw [HOPE.out, ← HWA.out]
  clear d0 d1
  go_wp2_with fail
  refine (Calls.mono HC1.out ?_)
  rintro en w1 ⟨rfl, hf1⟩
  have H4 := Lib.hid (H1.out.nil hf1)
  clear hf1
  go_wp2_with fail
  go_ret
  exact DoM.of (Us := [thBox w0.heap.size kb 31 OP]) H4.out (by rw [HTX.out]; exact Chg.refl _ _ _) HLA.out.1 HLA.out.2.1 TA.out TB.out

def twT (l : List PT) (o : Ob) : List PT := if o.k = 21 then tsetT l o.str o.n else if o.k = 23 then tdropT l o.str else l
def rxT (r : List PT) (o : Ob) : List PT := if o.k = 21 then rsetT r o.str o.n else if o.k = 23 then rdropT r o.str else r
theorem twT_rl {l r : List PT} (h : RlT l r) (o : Ob) : RlT (twT l o) (rxT r o) := by
  unfold twT rxT
  split
  · exact h.set _ _
  · split
    · exact h.drop _
    · exact h
theorem twT_len {l r : List PT} (h : RlT l r) (o : Ob) : (twT l o).length ≤ l.length + 1 := by
  unfold twT
  split
  · rw [tsetT_length]; split <;> omega
  · split
    · rw [tdropT_length _ _ h.rise]; split <;> omega
    · omega
theorem nameOp_any {w0 w : World} {Ts : List (Th w0.heap.size)} {gd i gs gr ja jb : Nat} {cs : Array Value} {v kv vv : Value} {l r : List PT} (hi : i < 2) (h : Sg w0 Ts w) (hd : Ts[0]? = some (thBox w0.heap.size gd 52 cs)) (hc0 : cs[8 + i]? = some (.pointer (some ⟨gs, 0, none⟩))) (hc1 : cs[18 + i]? = some (.pointer (some ⟨gr, 0, none⟩))) (ha : Ts[ja]? = some (thTbT w0.heap.size gs v l)) (hb : Ts[jb]? = some (thRw 74 9 3 w0.heap.size gr kv vv (rkT r) (rvT r))) (hab : ja ≠ jb) (h0a : ja ≠ 0) (h0b : jb ≠ 0) (hR : RlT l r) (hL : l.length ≤ 100000) (o : Ob) (hk : 21 ≤ o.k ∧ o.k ≤ 26) :
    Calls Tryz.prog 24 #[.pointer (some ⟨gd, 0, none⟩), .agg o.V, .int .i64 i] w (DoM w0 Ts gs gr ja jb (twT l o) (rxT r o)) := by
  obtain ⟨k, s, n, x, str, stop⟩ := o
  have hk : 21 ≤ k ∧ k ≤ 26 := hk
  have : k = 21 ∨ k = 22 ∨ k = 23 ∨ k = 24 ∨ k = 25 ∨ k = 26 := by omega
  rcases this with rfl | rfl | rfl | rfl | rfl | rfl
  · exact d_name_set hi h hd hc0 hc1 ha hb hab h0a h0b hR hL s n x str stop
  · exact d_name_get hi h hd hc0 hc1 ha hb hab h0a h0b hR hL s n x str stop
  · exact d_name_drop hi h hd hc0 hc1 ha hb hab h0a h0b hR hL s n x str stop
  · exact d_name_near hi h hd hc0 hc1 ha hb hab h0a h0b hR hL s n x str stop
  · exact d_name_len hi h hd hc0 hc1 ha hb hab h0a h0b hR hL s n x str stop
  · exact d_name_all hi h hd hc0 hc1 ha hb hab h0a h0b hR hL s n x str stop

set_option maxRecDepth 100000 in
set_option maxHeartbeats 1600000 in
/-- plays is nameOp for these kinds. -/
theorem plays_nameof {w : World} {gd i : Nat} {o : Ob} {Q : Ending → World → Prop} {P : World → Prop} (his : if o.s then i = 1 else i = 0) (hk : 21 ≤ o.k ∧ o.k ≤ 26)
    (hC : Calls Tryz.prog 24 #[.pointer (some ⟨gd, 0, none⟩), .agg o.V, .int .i64 i] (w.alloc (.cells o.V 31)) Q) (hQ : ∀ e w', Q e w' → e = .returned (.bool true) ∧ P w') :
    Calls Tryz.prog 11 #[.pointer (some ⟨gd, 0, none⟩), .agg o.V] w fun e w' => e = .returned (.bool true) ∧ P w' := by
  have HC := Lib.hid hC
  have HQ := Lib.hid hQ
  clear hC hQ
  obtain ⟨k, s, n, x, str, stop⟩ := o
  unfold Ob.V at HC ⊢
  have hk : 21 ≤ k ∧ k ≤ 26 := hk
  have d1 : decide (k < 1) = false := decide_eq_false (by omega)
  have d2 : decide (26 < k) = false := decide_eq_false (by omega)
  have d3 : decide (k ≤ 4) = false := decide_eq_false (by omega)
  have d4 : decide (k ≤ 9) = false := decide_eq_false (by omega)
  have d5 : decide (k ≤ 14) = false := decide_eq_false (by omega)
  have d6 : decide (k ≤ 20) = false := decide_eq_false (by omega)
  clear hk
  cases s with
  | false =>
    have his : i = 0 := by simpa using his
    subst his
    go_enter Tryz.func11, Tryz.ntmps11
    go_wp2_with fail
    refine (Calls.mono HC.out ?_)
    intro e w' hd
    obtain ⟨rfl, hx⟩ := HQ.out e w' hd
    have HX := Lib.hid hx
    clear hd hx
    go_wp2_with fail
    go_ret
    exact ⟨rfl, HX.out⟩
  | true =>
    have his : i = 1 := by simpa using his
    subst his
    go_enter Tryz.func11, Tryz.ntmps11
    go_wp2_with fail
    refine (Calls.mono HC.out ?_)
    intro e w' hd
    obtain ⟨rfl, hx⟩ := HQ.out e w' hd
    have HX := Lib.hid hx
    clear hd hx
    go_wp2_with fail
    go_ret
    exact ⟨rfl, HX.out⟩
/-- The tables of the desk. -/
structure DT (w0 : World) (gd : Nat) (pt : Nat → Nat → Nat) (LT LR : Nat → List PT) (Ts : List (Th w0.heap.size)) (w : World) : Prop where
  sg : Sg w0 Ts w
  len : Ts.length = 22
  d : ∃ f : Nat → Value, Ts[0]? = some (thBox w0.heap.size gd 52 (deskA f)) ∧ ∀ i, i < 2 → ∀ j, j < 10 → f (2 * j + i) = ptV (pt i j)
  st : ∀ i, i < 2 → (∃ v, Ts[2 + 10 * i + 4]? = some (thTbT w0.heap.size (pt i 4) v (LT i))) ∧ ∃ kv vv, Ts[2 + 10 * i + 9]? = some (thRw 74 9 3 w0.heap.size (pt i 9) kv vv (rkT (LR i)) (rvT (LR i)))
  rl : ∀ i, i < 2 → RlT (LT i) (LR i)
def updPT (LS : Nat → List PT) (i : Nat) (L : List PT) : Nat → List PT := fun j => if j = i then L else LS j
theorem DT.step {w0 w w' : World} {gd : Nat} {pt : Nat → Nat → Nat} {LT LR : Nat → List PT} {Ts Us : List (Th w0.heap.size)} {i : Nat} {l r : List PT} {e : Ending} (hi : i < 2) (h : DT w0 gd pt LT LR Ts w) (hr : RlT l r) (hd : DoM w0 (Ts ++ Us) (pt i 4) (pt i 9) (2 + 10 * i + 4) (2 + 10 * i + 9) l r e w') :
    e = .returned (.bool true) ∧ ∃ Ts', DT w0 gd pt (updPT LT i l) (updPT LR i r) Ts' w' := by
  obtain ⟨he, T, v, kv, vv, h1, h2, h3, h4⟩ := hd
  have hl := h.len
  have hlt : T.length = Ts.length + Us.length := by rw [h2.1, List.length_append]
  have old : ∀ j, j < Ts.length → j ≠ 2 + 10 * i + 4 → j ≠ 2 + 10 * i + 9 → (T.take Ts.length)[j]? = Ts[j]? := fun j hj h5 h6 => by
    rw [List.getElem?_take, if_pos hj, h2.2 j h5 h6, List.getElem?_append_left hj]
  refine ⟨he, T.take Ts.length, h1.take _, by rw [List.length_take]; omega, ?_, fun i' hi' => ?_, fun i' hi' => ?_⟩
  · obtain ⟨f, f1, f2⟩ := h.d
    exact ⟨f, by rw [old 0 (by omega) (by omega) (by omega)]; exact f1, f2⟩
  · by_cases e : i' = i
    · subst e
      unfold updPT
      rw [if_pos rfl, if_pos rfl]
      exact ⟨⟨v, by rw [List.getElem?_take, if_pos (by omega)]; exact h3⟩, kv, vv, by rw [List.getElem?_take, if_pos (by omega)]; exact h4⟩
    · unfold updPT
      rw [if_neg e, if_neg e]
      obtain ⟨⟨u, k1⟩, u2, u3, k2⟩ := h.st i' hi'
      exact ⟨⟨u, by rw [old _ (by omega) (by omega) (by omega)]; exact k1⟩, u2, u3, by rw [old _ (by omega) (by omega) (by omega)]; exact k2⟩
  · unfold updPT
    by_cases e : i' = i
    · rw [if_pos e, if_pos e]; exact hr
    · rw [if_neg e, if_neg e]; exact h.rl i' hi'
theorem plays_name {w0 w : World} {gd : Nat} {pt : Nat → Nat → Nat} {LT LR : Nat → List PT} {Ts : List (Th w0.heap.size)} (h : DT w0 gd pt LT LR Ts w) (hL : ∀ i, i < 2 → (LT i).length ≤ 100000) (o : Ob) (hk : 21 ≤ o.k ∧ o.k ≤ 26) :
    Calls Tryz.prog 11 #[.pointer (some ⟨gd, 0, none⟩), .agg o.V] w fun e w' => e = .returned (.bool true) ∧ ∃ (i : Nat) (Ts' : List (Th w0.heap.size)), i < 2 ∧ DT w0 gd pt (updPT LT i (twT (LT i) o)) (updPT LR i (rxT (LR i) o)) Ts' w' := by
  obtain ⟨i, hi, his⟩ : ∃ i : Nat, i < 2 ∧ (if o.s then i = 1 else i = 0) := by
    cases o.s
    · exact ⟨0, by omega, rfl⟩
    · exact ⟨1, by omega, rfl⟩
  obtain ⟨f, f1, f2⟩ := h.d
  obtain ⟨⟨v, s1⟩, kv, vv, s2⟩ := h.st i hi
  have hl := h.len
  have hbx := h.sg.box 31 o.V
  refine plays_nameof his hk (nameOp_any (gs := pt i 4) (gr := pt i 9) (ja := 2 + 10 * i + 4) (jb := 2 + 10 * i + 9) hi hbx (by rw [List.getElem?_append_left (by omega)]; exact f1) (by rw [deskA_at f (by omega)]; have := f2 i hi 4 (by omega); rw [show 2 * 4 + i = 8 + i by omega] at this; rw [this]; rfl) (by rw [deskA_at f (by omega)]; have := f2 i hi 9 (by omega); rw [show 2 * 9 + i = 18 + i by omega] at this; rw [this]; rfl)
    (by rw [List.getElem?_append_left (by omega)]; exact s1) (by rw [List.getElem?_append_left (by omega)]; exact s2) (by omega) (by omega) (by omega) (h.rl i hi) (hL i hi) o hk) (fun e w' hd => ?_)
  obtain ⟨k1, T', k2⟩ := h.step hi (twT_rl (h.rl i hi) o) hd
  exact ⟨k1, i, T', hi, k2⟩
/-- The tables, while a script is played. -/
theorem run_name {w0 w : World} {gd gm : Nat} {orig : Nat → Int} (h : BI w0 gd gm orig 2 w) : ∃ Inv : Nat → World → Prop, Inv 0 w ∧ Run w0 gd 21 26 Inv := by
  obtain ⟨pt, Ts, f, m, s1, s2, s3, s4, s5, s6⟩ := h
  refine ⟨fun k z => ∃ LT LR Ts', (∀ i, i < 2 → (LT i).length ≤ k) ∧ DT w0 gd pt LT LR Ts' z, ⟨fun _ => [], fun _ => [], Ts, fun i _ => by simp, s1, s2, ⟨f, s3, fun i hi j hj => (s5 i hi).2 j hj⟩, fun i hi => ?_, fun i hi => RlT.nil⟩, ⟨?_, ?_, ?_⟩⟩
  · have h0 := (s5 i hi).1 4 _ rfl
    have h5 := (s5 i hi).1 9 _ rfl
    exact ⟨⟨nilS, h0⟩, nilS, nilS, h5⟩
  · rintro k z ⟨LT, LR, T, _, hd⟩
    exact hd.sg.fr
  · rintro k z ⟨LT, LR, T, hl, hd⟩
    exact ⟨LT, LR, T, fun i hi => by have := hl i hi; omega, hd⟩
  · rintro k z o hk h1 h2 ⟨LT, LR, T, hl, hd⟩
    refine (plays_name hd (fun i hi => by have := hl i hi; omega) o ⟨h1, h2⟩).mono ?_
    rintro e z' ⟨he, i, T', hi, hd'⟩
    refine ⟨he, _, _, T', fun j hj => ?_, hd'⟩
    unfold updPT
    split
    · have := twT_len (hd.rl i hi) o
      have := hl i hi
      omega
    · have := hl j hj
      omega
theorem named_st (A : Option Addr) (n c : Nat) (l : List Ob) (w : World) (hn : n = l.length) (hnn : n ≤ 9223372036854775807) (hr : RdB w A l) :
    Calls Tryz.prog 7 #[.slice A n c] w fun e w' => e = .returned (.bool true) ∧ Fr [] w w' := by
  have H := Lib.hid (run_any w 0 0 21 26 (fun _ => 0) A n c l hn hnn hr (begin_any w 0 0 _ rfl rfl) (fun gd gm w' h => run_name h))
  clear hn hr
  go_enter Tryz.func7, Tryz.ntmps7
  go_wp2_with fail
  refine (Calls.mono H.out ?_)
  rintro e w' ⟨rfl, hf⟩
  have HF := Lib.hid hf
  clear hf
  go_wp2_with fail
  go_ret
  exact ⟨rfl, HF.out⟩
end Go.Proofs.YtdjaalkbpdmdgaaGreat
