/-
  Bag: queues of texts: calls, as iterators, strings.
-/
import Derived.Test.YtdjaalkbpdmdgaaGreatBgT7
import Derived.Test.YtdjaalkbpdmdgaaGreatBg14
import Derived.Test.YtdjaalkbpdmdgaaGreatBg15
namespace Go.Proofs.YtdjaalkbpdmdgaaGreat
open Go.RowKit Go.Shelf
set_option linter.unusedVariables false
attribute [local go_sem] Oper.semAt_some
set_option maxRecDepth 100000 in
set_option maxHeartbeats 1600000 in
theorem givenS_in (n : Nat) (hn : 1 ≤ n) (lp b0 n₀ N : Nat) (T : List Nat) (v : Value) (l : List ByteArray) (hl : l.length < N) (hl2 : l.length ≤ 1000000000)
    (hv : ∀ k, v.ownBlock = some k → k < n₀ ∧ k ∉ T) (J : List ByteArray → World → Prop)
    (hY : ∀ pre (x : ByteArray) W, J pre W → pre.length < N → YieldAt Fence.wide (n - 1) Tryz.prog lp #[.string x] W fun e W' => e = .returned (.bool true) ∧ J (pre ++ [x]) W' ∧ Kb n₀ T W W')
    (W : World) (hL : Lst W b0 9 1 v l.length (sV l)) (h0 : J [] W) :
    CallsIn Fence.wide n Tryz.prog 87 #[v, .func (.yield lp) #[] #[]] W (HandOk l J) := by
  refine callsIn_of_wp Tryz.func87 rfl trivial ?_ rfl
  simp only [Tryz.ntmps87, List.size_toArray, List.length_cons, List.length_nil, Nat.reduceAdd, Nat.reduceSub, Array.replicate_succ, Array.replicate_zero, List.push_toArray, List.append_toArray, List.nil_append, List.cons_append]
  obtain ⟨m, hm⟩ : ∃ m, l.length = m := ⟨_, rfl⟩
  rw [hm] at hL hl hl2
  obtain ⟨A, cp, rfl, _, _⟩ := hL.look
  have HL := Lib.hid hL
  have HY := Lib.hid hY
  have HM := Lib.hid hm
  have HV := Lib.hid hv
  clear hL hY hm hv
  gi_wp2
  gi_loopw [8] (fun u wr => ∃ k : Nat, k ≤ m ∧ u = .int .i64 k ∧ Hid (J (l.take k) wr) ∧ Hid (Kb n₀ T W wr)) (fun u _ => m - (intOf u).toNat)
  case atStart => exact ⟨0, Nat.zero_le _, rfl, h0, Kb.refl _ _ _⟩
  case round =>
    obtain ⟨q, hk, rfl, HJ, HK⟩ := hrel
    by_cases hlt : q < m
    · have hd : decide ((q : Int) < (m : Int)) = true := decide_eq_true (by omega)
      obtain ⟨x, hx⟩ : ∃ x, l[q]? = some x := ⟨_, List.getElem?_eq_getElem (by have := HM.out; omega)⟩
      have hLr := HK.out.lst HL.out HV.out
      obtain ⟨gs, off, cp', hv, _, _, _, _, _, _, hcell⟩ := hLr.form (by omega)
      injection hv with hv1 _ hv3
      subst hv1
      have cx := hcell q _ (sV_at hx)
      have i0 : (0 : Int) ≤ (q : Int) := by omega
      have i1 : (q : Int) < (m : Int) := by omega
      have hlen : (l.take q).length < N := by rw [List.length_take, HM.out]; omega
      obtain ⟨fn, tmps, assign, body, hy, hR⟩ := HY.out (l.take q) x wr HJ.out hlen
      have HZK : Hid (Kb n₀ T wr wr) := Kb.refl _ _ _
      have hnext : l.take q ++ [x] = l.take (q + 1) := by
        obtain ⟨h1, h2⟩ := List.getElem?_eq_some_iff.1 hx
        rw [List.take_succ_eq_append_getElem h1, h2]
      have HN := Lib.hid hnext
      clear hcell hv3 hx hLr hlen hnext
      gi_wp2
      refine hR.mono ?_
      rintro e W3 ⟨rfl, hJ3, hk3⟩
      have HJ3 := Lib.hid hJ3
      have HK3 : Hid (Kb n₀ T W W3) := (HK.out.trans HZK.out).trans hk3
      clear hJ3 hk3 hy hR HZK
      gi_wp2
      go_roundw
      case rel => exact ⟨q + 1, by omega, by go_num, (by show J (l.take (q + 1)) W3; rw [← HN.out]; exact HJ3.out), HK3.out⟩
      case measure => simp [intOf]; omega
    · obtain rfl : q = m := by omega
      have hd : decide ((q : Int) < (q : Int)) = false := decide_eq_false (by omega)
      gi_wp2
      go_end0
      refine ⟨⟨_, rfl⟩, _, rfl, ?_⟩
      have := HJ.out
      rw [List.take_of_length_le (by rw [HM.out]; exact Nat.le_refl _)] at this
      exact this

set_option maxRecDepth 100000 in
set_option maxHeartbeats 1600000 in
theorem textEach_in (n : Nat) (hn : 2 ≤ n) (lp b0 g n₀ N : Nat) (T : List Nat) (most : Int) (v : Value) (l : List ByteArray) (hl : l.length < N) (hl2 : l.length ≤ 1000000000)
    (hv : ∀ k, v.ownBlock = some k → k < n₀ ∧ k ∉ T) (J : List ByteArray → World → Prop)
    (hY : ∀ pre (x : ByteArray) W, J pre W → pre.length < N → YieldAt Fence.wide (n - 1) Tryz.prog lp #[.string x] W fun e W' => e = .returned (.bool true) ∧ J (pre ++ [x]) W' ∧ Kb n₀ T W W')
    (W : World) (hS : Sx 124 b0 W g most v l) (h0 : J [] W) :
    CallsIn Fence.wide n Tryz.prog 89 #[.pointer (some ⟨g, 0, none⟩), .func (.yield lp) #[] #[]] W (HandOk l J) := by
  refine callsIn_of_wp Tryz.func89 rfl trivial ?_ rfl
  simp only [Tryz.ntmps89, List.size_toArray, List.length_cons, List.length_nil, Nat.reduceAdd, Nat.reduceSub, Array.replicate_succ, Array.replicate_zero, List.push_toArray, List.append_toArray, List.nil_append, List.cons_append]
  have c1 : W.cell? ⟨g, 1, none⟩ = some v := hS.B.cell 1
  have HL := Lib.hid hS.L
  have HY := Lib.hid hY
  have HV := Lib.hid hv
  have HH := Lib.hid h0
  have HN := Lib.hid (And.intro hl hl2)
  clear hS hY hv h0 hl hl2
  gi_wp2
  refine ⟨trivial, fun _ => by omega, (givenS_in (n - 1) (by omega) lp b0 n₀ N T v l HN.out.1 HN.out.2 HV.out J (fun pre x W h1 h2 => yieldAt_wide (HY.out pre x W h1 h2)) W HL.out HH.out).mono ?_⟩
  rintro e W3 ⟨⟨u, rfl⟩, hJ⟩
  gi_wp2
  go_end0
  exact ⟨⟨_, rfl⟩, hJ⟩

set_option maxRecDepth 100000 in
set_option maxHeartbeats 1600000 in
theorem gatherS (gf : Nat) (fi : Array Value) (L : List ByteArray) (w : World)
    (eg : ∀ args w, (callFunc gf args).run Tryz.prog w = .ok (.enter gf args) w)
    (hH : ∀ z, Fr [] w z → Hands Fence.wide 5 Tryz.prog gf fi (fun x : ByteArray => #[.string x]) (Kb w.heap.size []) (fun xs => xs = L) 1000001 z) :
    Calls Tryz.prog 88 #[.func (.func gf) fi #[]] w (fun e w' => ∃ v, e = .returned v ∧ Lst w' w.heap.size 9 1 v L.length (sV L) ∧ Fr [] w w') := by
  rw [← callsIn_wide (n := 6)]
  refine callsIn_of_wp_marks Tryz.func88 rfl trivial ?_ rfl
  simp only [Tryz.ntmps88, List.size_toArray, List.length_cons, List.length_nil, Nat.reduceAdd, Nat.reduceSub, Array.replicate_succ, Array.replicate_zero, List.push_toArray, List.append_toArray, List.nil_append, List.cons_append]
  have HH := Lib.hid hH
  have HE := Lib.hid eg
  clear hH eg
  gi_wp2
  obtain ⟨w1, hw1⟩ : ∃ w1, w1 = w.alloc (.cells #[.slice none 0 0] 72) := ⟨_, rfl⟩
  have hf1 : Fr [] w w1 := by rw [hw1]; exact (Fr.refl _ _).alloc _
  have hsz : w1.heap.size = w.heap.size + 1 := by rw [hw1]; simp
  have H0 : Hid (Gth w 72 9 1 sV [] w1) := ⟨_, by rw [hw1]; exact Bk.new _ _ _, Lst.nil _ _ _ _, hf1.kb (by simp)⟩
  have HF1 := Lib.hid hf1
  rw [← hw1]
  clear hw1 hf1
  refine wpIn_range_method rfl (by omega) (gf := gf) (fi := fi) rfl trivial HE.out (HH.out w1 HF1.out)
    (fun h k => h.trans k) (fun W l o o' hl h _ => kb_of_grown (grownBy_putObj' W l o') (fun r e => by cases e; omega)) (fun _ => rfl)
    (Gth w 72 9 1 sV) (Gth.own _ _ _ _ _ _ (by omega)) H0.out
    (fun x a' _ => a' = { tmps := #[.func (.func gf) fi #[], undef, .slice none 0 0, .pointer (some ⟨w.heap.size, 0, none⟩), .string x, .func (.func gf) fi #[], .string x, undef, undef, undef, undef, undef], defers := [] })
    (fun x a' s A B row hs hg hr => hs) ?assign ?body ?done
  case assign =>
    intro l pre x W K hI hK
    gi_wp2
    exact hK _ _ (KeepsFrom.refl _ _) (Kb.refl _ _ _) hI rfl
  case body =>
    rintro l pre x a' W ⟨v, hB, hL, hk⟩ rfl hlen
    obtain ⟨A, cp, rfl, _, _⟩ := hL.look
    have c1 : W.cell? ⟨w.heap.size, 0, none⟩ = some (.slice A pre.length cp) := hB.cell 0
    have HB := Lib.hid hB
    have HL := Lib.hid hL
    have HK := Lib.hid hk
    have hks := hk.size
    clear hB hL hk
    obtain ⟨i2, hi2, hz2, hs2, hb2⟩ := info_parts' str_info
    gi_wp2_with (gi_at_builtin; refine wpListIn_append_lst _ rfl (.tmp 7) (.tmp 9) _ rfl w.heap.size 9 i2 _ 1 16 Tryz.underlying72 hi2 hz2 hs2 hb2 rfl _ pre.length (sV pre) rfl (HL.out.alloc _) ⟨W.heap.size, 0, none⟩ 1 1 [.string x] rfl rfl (World.news_of_block (heap_alloc_new _ _)) ?c2 ?c3 ?c4 ?c5 ?c6)
    case c2 => simp [Value.oneCell']
    case c3 => unfold maxLen; omega
    case c4 => omega
    case c5 => simp; omega
    case c6 =>
      intro v2 w7 hown hgrow hat
      have hne : ∀ j, (Value.slice A pre.length cp).ownBlock = some j → j ≠ w.heap.size := HL.out.ne_bk HB.out (by decide)
      have hlt := HL.out.lt
      have hfr : Fr (Value.slice A pre.length cp).ownBlock.toList W w7 := ((Fr.refl _ _).alloc _).grown hgrow (fun j hj => .inl (by simp [hj]))
      have HB7 := Lib.hid (HB.out.fr hfr (fun hx => hne _ (by simpa using hx) rfl))
      have HL7 : Hid (Lst w7 w.heap.size 9 1 v2 (pre.length + 1) (sV pre ++ [.string x])) := hown
      have HK7 : Hid (Kb w.heap.size [] W w7) := hfr.kb (fun y hy => .inr (hlt y (by simpa using hy)).1)
      have HG7 : Hid (KeepsFrom w1.heap.size W w7) := hfr.keeps (fun y hy => by
        obtain ⟨cs, hcs⟩ := HL.out.bk (k := y) (by simpa using hy)
        exact ⟨_, cs, hcs⟩)
      have cz := HB7.out.cell 0
      have fz := HB7.out.free 0
      obtain ⟨A2, cap2, rfl, _, _⟩ := HL7.out.look
      clear hown hgrow hat hfr hne hlt c1
      gi_wp2
      have hne2 : ∀ j, (Value.slice A2 (pre.length + 1) cap2).ownBlock = some j → j ≠ w.heap.size := HL7.out.ne_bk HB7.out (by decide)
      have hset : Fr [w.heap.size] w7 (w7.setCell ⟨w.heap.size, 0, none⟩ (.slice A2 (pre.length + 1) cap2)) := (Fr.refl _ _).setCell (by simp) _
      have hks2 : Kb w.heap.size [] w7 (w7.setCell ⟨w.heap.size, 0, none⟩ (.slice A2 (pre.length + 1) cap2)) := hset.kb (by simp)
      refine ⟨?_, HK7.out.trans hks2, _, HB7.out.put 0 _, ?_, HK.out.trans (HK7.out.trans hks2)⟩
      · rw [← hsz]
        exact HG7.out.trans (hset.keeps (fun y hy => by cases List.mem_singleton.1 hy; exact ⟨_, _, HB7.out⟩))
      · have := HL7.out.far (p := ⟨w.heap.size, 0, none⟩) hne2 (.slice A2 (pre.length + 1) cap2)
        unfold sV at this ⊢
        rw [List.map_append, List.length_append]
        exact this
  case done =>
    rintro D xs W hD rfl ⟨v, hB, hL, hk⟩ hK
    have c1 : W.cell? ⟨w.heap.size, 0, none⟩ = some v := hB.cell 0
    gi_wp2
    refine ⟨by simp, .inl ⟨_, _, rfl, run_takeDeferred hK, ?_⟩⟩
    have hg := grownBy_putObj' W D (.deferred none)
    have hnc : ∀ r, some D = some r → ∃ o : Obj, W.heap[r]? = some o ∧ o.isCells = false := fun r e => by cases e; exact ⟨_, hK, rfl⟩
    refine ⟨_, results_tmp rfl _ _ _, v, rfl, lst_kept hL hg hnc, ?_⟩
    exact (hk.trans (kb_of_grown hg (fun r e => by cases e; omega))).fr
end Go.Proofs.YtdjaalkbpdmdgaaGreat
namespace Go.Proofs.YtdjaalkbpdmdgaaGreat
open Go.RowKit Go.Shelf
set_option linter.unusedVariables false
set_option maxRecDepth 100000 in
set_option maxHeartbeats 1600000 in
theorem giveS (gy : Nat) (caps : Array Value) (b0 n₀ : Nat) (T : List Nat) (v : Value) (l : List ByteArray) (hl2 : l.length ≤ 1000000000) (eg : ∀ args w, (callFunc gy args).run Tryz.prog w = .ok (.enter gy args) w)
    (hv : ∀ k, v.ownBlock = some k → k < n₀ ∧ k ∉ T) (U Ux : List ByteArray → World → Prop) (W : World)
    (hY : ∀ pre (x : ByteArray) W1, pre ++ [x] <+: l → Kb n₀ T W W1 → U pre W1 → Calls Tryz.prog gy (#[.string x] ++ caps) W1 (Usr n₀ T U Ux pre x W1))
    (hL : Lst W b0 9 1 v l.length (sV l)) (h0 : U [] W) :
    Calls Tryz.prog 87 #[v, .func (.func gy) #[] caps] W (Given n₀ T U Ux l W) := by
  obtain ⟨m, hm⟩ : ∃ m, l.length = m := ⟨_, rfl⟩
  rw [hm] at hL hl2
  obtain ⟨A, cp, rfl, _, _⟩ := hL.look
  have HL := Lib.hid hL
  have HY := Lib.hid hY
  have HM := Lib.hid hm
  have HV := Lib.hid hv
  clear hL hY hm hv
  go_enter Tryz.func87, Tryz.ntmps87
  go_wp2_with fail
  go_loopw [8] (fun u wr => ∃ k : Nat, k ≤ m ∧ u = .int .i64 k ∧ Hid (U (l.take k) wr) ∧ Hid (Kb n₀ T W wr)) (fun u _ => m - (intOf u).toNat)
  case atStart => exact ⟨0, Nat.zero_le _, rfl, h0, Kb.refl _ _ _⟩
  case round =>
    obtain ⟨q, hk, rfl, HJ, HK⟩ := hrel
    by_cases hlt : q < m
    · have hd : decide ((q : Int) < (m : Int)) = true := decide_eq_true (by omega)
      obtain ⟨x, hx⟩ : ∃ x, l[q]? = some x := ⟨_, List.getElem?_eq_getElem (by have := HM.out; omega)⟩
      have hLr := HK.out.lst HL.out HV.out
      obtain ⟨gs, off, cp', hv, _, _, _, _, _, _, hcell⟩ := hLr.form (by omega)
      injection hv with hv1 _ hv3
      subst hv1
      have hnext : l.take q ++ [x] = l.take (q + 1) := by
        obtain ⟨h1, h2⟩ := List.getElem?_eq_some_iff.1 hx
        rw [List.take_succ_eq_append_getElem h1, h2]
      have hpre : l.take q ++ [x] <+: l := by rw [hnext]; exact List.take_prefix _ _
      have cx := hcell q _ (sV_at hx)
      have i0 : (0 : Int) ≤ (q : Int) := by omega
      have i1 : (q : Int) < (m : Int) := by omega
      have hcall := HY.out (l.take q) x wr hpre HK.out HJ.out
      have HZK : Hid (Kb n₀ T wr wr) := Kb.refl _ _ _
      have HN := Lib.hid hnext
      have HC := Lib.hid hcall
      clear hcell hv3 hx hLr hnext hcall hpre
      go_wp2_with fail
      refine (Calls.mono HC.out ?_)
      rintro e W3 ⟨b, rfl, hk3, hu, hux⟩
      have HK3 : Hid (Kb n₀ T W W3) := (HK.out.trans HZK.out).trans hk3
      cases b with
      | true =>
        have HJ3 := Lib.hid (hu rfl)
        clear hu hux hk3 HZK HC
        go_wp2_with fail
        go_roundw
        case rel => exact ⟨q + 1, by omega, by go_num, (by show U (l.take (q + 1)) W3; rw [← HN.out]; exact HJ3.out), HK3.out⟩
        case measure => simp [intOf]; omega
      | false =>
        have HJ3 := Lib.hid (hux rfl)
        clear hu hux hk3 HZK HC
        go_wp2_with fail
        go_end0
        exact ⟨rfl, HK3.out, .inr ⟨_, List.take_prefix (q + 1) l, by rw [← HN.out]; exact HJ3.out⟩⟩
    · obtain rfl : q = m := by omega
      have hd : decide ((q : Int) < (q : Int)) = false := decide_eq_false (by omega)
      go_wp2_with fail
      go_end0
      refine ⟨rfl, HK.out, .inl ?_⟩
      have := HJ.out
      rw [List.take_of_length_le (by rw [HM.out]; exact Nat.le_refl _)] at this
      exact this

theorem text_all (g : Nat) (w : World) :
    Calls Tryz.prog 55 #[.pointer (some ⟨g, 0, none⟩)] w fun e w' => e = .returned (.func (.func 86) #[] #[.pointer (some ⟨w.heap.size, 0, none⟩)]) ∧ w' = w.alloc (.cells #[.pointer (some ⟨g, 0, none⟩)] 37) := by
  go_enter Tryz.func55, Tryz.ntmps55
  go_wp2_with fail
  go_ret
  exact ⟨rfl, rfl⟩

theorem text_hands (b0 g : Nat) (most : Int) (v : Value) (l : List ByteArray) (hl : l.length ≤ 1000000) (w z : World) (hS : Sx 124 b0 w g most v l) (hf : Fr [] w z) :
    Hands Fence.wide 5 Tryz.prog 89 #[.pointer (some ⟨g, 0, none⟩)] (fun x : ByteArray => #[.string x]) (Kb w.heap.size []) (fun xs => xs = l) 1000001 z := by
  intro lp J W hB hJ hY h0
  have hSW : Sx 124 b0 W g most v l := hS.fr (hf.trans (below_fr hB) (by simp)) (by simp)
  exact textEach_in 5 (by omega) lp b0 g w.heap.size 1000001 [] most v l (by omega) (by omega) (fun k hk => ⟨(hS.L.lt k hk).2, by simp⟩) J hY W hSW h0

set_option maxRecDepth 100000 in
set_option maxHeartbeats 1600000 in
theorem text_all1 (b0 g : Nat) (most : Int) (v : Value) (l : List ByteArray) (hl : l.length ≤ 1000000) (w : World) (hS : Sx 124 b0 w g most v l) (bm gy : Nat) (caps : Array Value) (c0 : w.cell? ⟨bm, 0, none⟩ = some (.pointer (some ⟨g, 0, none⟩)))
    (eg : ∀ args w, (callFunc gy args).run Tryz.prog w = .ok (.enter gy args) w) (T : List Nat) (hT : ∀ x ∈ T, x < w.heap.size) (U Ux : Nat → List ByteArray → World → Prop)
    (hU0 : ∀ n₀ W, w.heap.size ≤ n₀ → n₀ = W.heap.size → Fr [] w W → U n₀ [] W)
    (hY : ∀ n₀ pre (x : ByteArray) W, w.heap.size ≤ n₀ → n₀ ≤ W.heap.size → pre ++ [x] <+: l → Kb n₀ T w W → U n₀ pre W → Calls Tryz.prog gy (#[.string x] ++ caps) W (Usr n₀ T (U n₀) (Ux n₀) pre x W)) :
    Calls Tryz.prog 86 #[.func (.func gy) #[] caps, .pointer (some ⟨bm, 0, none⟩)] w (AllOk w T U Ux (l)) := by
  have HS := Lib.hid hS
  have HL := Lib.hid hl
  have HT := Lib.hid hT
  have HU0 := Lib.hid hU0
  have HY := Lib.hid hY
  have hbl := block_lt_of_cell c0
  have HEG := Lib.hid eg
  clear hS hl hT hU0 hY eg
  go_enter Tryz.func86, Tryz.ntmps86
  go_wp2_with fail
  refine (gatherS 89 #[.pointer (some ⟨g, 0, none⟩)] (l) w (enters_of Tryz.func89 (by kernel_rfl) rfl) (fun z hz => text_hands b0 g most v l HL.out w z HS.out hz)).mono ?_
  rintro e w1 ⟨vl, rfl, hL1, hf1⟩
  have HL1 := Lib.hid hL1
  have HF1 := Lib.hid hf1
  clear hL1 hf1
  go_wp2_with fail
  refine (giveS gy caps w.heap.size w1.heap.size T vl (l) (by have := HL.out; simp; omega) HEG.out (fun k hk => ⟨(HL1.out.lt k hk).2, fun hx => by have := (HL1.out.lt k hk).1; have := HT.out k hx; omega⟩) (U w1.heap.size) (Ux w1.heap.size) w1
    (fun pre x W1 h1 h2 h3 => HY.out w1.heap.size pre x W1 HF1.out.size h2.size h1 ((HF1.out.kb (by simp)).trans h2) h3) HL1.out (HU0.out w1.heap.size w1 HF1.out.size rfl HF1.out)).mono ?_
  rintro e w2 ⟨rfl, hk2, hu2⟩
  have HK2 := Lib.hid hk2
  have HU2 := Lib.hid hu2
  clear hk2 hu2
  go_wp2_with fail
  go_end0
  exact ⟨rfl, (((HF1.out.kb (n₀ := w1.heap.size) (by simp)).trans HK2.out).mono HF1.out.size).fr, w1.heap.size, HF1.out.size, HK2.out.size, HU2.out⟩

def encS (x : ByteArray) : Array Value := #[.string x]
theorem text_seq (b0 g bm : Nat) (most : Int) (v : Value) (l : List ByteArray) (hl : l.length ≤ 1000000) (w : World) (hS : Sx 124 b0 w g most v l) (hB : Bk w bm 37 #[.pointer (some ⟨g, 0, none⟩)]) :
    Seq Tryz.prog 86 #[.pointer (some ⟨bm, 0, none⟩)] l encS (bm :: skT g v) w := by
  refine ⟨fun x hx => by rcases List.mem_cons.1 hx with rfl | h; exact hB.lt; exact (hS.lt x h).2, fun w' hs gy caps eg T hT U Ux hUa hU0 hY => ?_⟩
  exact text_all1 b0 g most v l hl w' (hS.fr hs.fr (fun x hx => Sm.off (List.mem_cons_of_mem _ hx))) bm gy caps ((hB.fr hs.fr (Sm.off (by simp))).cell 0) eg T hT U Ux hU0 hY
end Go.Proofs.YtdjaalkbpdmdgaaGreat
namespace Go.Proofs.YtdjaalkbpdmdgaaGreat
open Go.RowKit
set_option linter.unusedVariables false
def SxTo (t : TypeId) (b0 : Nat) (g : Nat) (most : Int) (v : Value) (l' : List ByteArray) (r : Value) (w : World) (e : Ending) (w' : World) : Prop :=
  e = .returned r ∧ ∃ v', Sx t b0 w' g most v' l' ∧ Fr (skT g v) w w' ∧ ∀ x ∈ skT g v', x ∈ skT g v ∨ w.heap.size ≤ x
theorem Sg.sx {w0 w w' : World} {Ts : List (Th w0.heap.size)} {e : Ending} {r v : Value} {g i : Nat} {most : Int} {t : TypeId} {l l' : List ByteArray} (h : Sg w0 Ts w) (hi : Ts[i]? = some (thSx t w0.heap.size g most v l)) (ho : SxTo t w0.heap.size g most v l' r w e w') : e = .returned r ∧ ∃ v', Sg w0 (Ts.set i (thSx t w0.heap.size g most v' l')) w' := by
  obtain ⟨h1, v', h2, h3, h4⟩ := ho
  exact ⟨h1, v', h.set hi h3 h2 h4⟩
theorem Sg.sx_at {w0 w : World} {Ts : List (Th w0.heap.size)} {v : Value} {g i : Nat} {most : Int} {t : TypeId} {l : List ByteArray} (h : Sg w0 Ts w) (hi : Ts[i]? = some (thSx t w0.heap.size g most v l)) : Sx t w0.heap.size w g most v l := h.ok i _ hi
def addX (most : Int) (L : List ByteArray) (x : ByteArray) : List ByteArray := if fullB L.length most then L else L ++ [x]
def addXE (most : Int) (L : List ByteArray) : Int := if fullB L.length most then 11 else 0
def popXX (L : List ByteArray) : ByteArray := match L with | [] => ⟨#[]⟩ | x :: _ => x
def popXB (L : List ByteArray) : Bool := match L with | [] => false | _ :: _ => true

theorem text_len (b0 g : Nat) (most : Int) (v : Value) (l : List ByteArray) (w : World) (h : Sx 124 b0 w g most v l) :
    Calls Tryz.prog 53 #[.pointer (some ⟨g, 0, none⟩)] w fun e w' => e = .returned (.int .i64 (l.length : Nat)) ∧ w = w' := by
  obtain ⟨A, cp, rfl, _, _⟩ := h.L.look
  have c1 : w.cell? ⟨g, 1, none⟩ = some (.slice A l.length cp) := h.B.cell 1
  clear h
  go_enter Tryz.func53, Tryz.ntmps53
  go_wp2_with fail
  go_ret
  exact ⟨rfl, rfl⟩
theorem text_full (b0 g : Nat) (most : Int) (v : Value) (l : List ByteArray) (x : ByteArray) (w : World) (h : Sx 124 b0 w g most v l) (hf : fullB l.length most = true) :
    Calls Tryz.prog 46 #[.pointer (some ⟨g, 0, none⟩), .string x] w (SxTo 124 b0 g most v l (.int .i64 11) w) := by
  obtain ⟨A, cp, rfl, _, _⟩ := h.L.look
  have c0 : w.cell? ⟨g, 0, none⟩ = some (.int .i64 most) := h.B.cell 0
  have c1 : w.cell? ⟨g, 1, none⟩ = some (.slice A l.length cp) := h.B.cell 1
  have H1 : Hid (∀ n, Calls Tryz.prog 76 #[.int .i64 (l.length : Nat), .int .i64 most] (w.drewN n) fun e w' => e = .returned (.bool true) ∧ w.drewN n = w') := fun n => by
    rw [← hf]
    exact full_any l.length most _
  have H := Lib.hid h
  clear h hf
  go_enter Tryz.func46, Tryz.ntmps46
  go_upto_region 1 with fail
  go_quiet ((go_at_call 76; exact qleft (H1.out _)))
  go_wp2_with fail
  go_ret
  exact ⟨rfl, _, H.out.fr ((Fr.refl [] _).drewN _) (by simp), (Fr.refl _ _).drewN _, fun x hx => .inl hx⟩
set_option maxHeartbeats 800000 in
theorem text_add (b0 g : Nat) (most : Int) (v : Value) (l : List ByteArray) (x : ByteArray) (w : World) (h : Sx 124 b0 w g most v l) (hf : fullB l.length most = false) (hl : l.length ≤ 1000000000000) (hb : b0 ≤ w.heap.size) (ht : 124 ≠ 9) :
    Calls Tryz.prog 46 #[.pointer (some ⟨g, 0, none⟩), .string x] w (SxTo 124 b0 g most v (l ++ [x]) (.int .i64 0) w) := by
  obtain ⟨i2, hi2, hz2, hs2, hb2⟩ := info_parts' str_info
  obtain ⟨n, hn⟩ : ∃ n, l.length = n := ⟨_, rfl⟩
  have hL := h.L
  rw [hn] at hL hl
  obtain ⟨A, cp, rfl, _, _⟩ := hL.look
  have c0 : w.cell? ⟨g, 0, none⟩ = some (.int .i64 most) := h.B.cell 0
  have c1 : w.cell? ⟨g, 1, none⟩ = some (.slice A n cp) := h.B.cell 1
  have H1 : Hid (∀ m, Calls Tryz.prog 76 #[.int .i64 (n : Nat), .int .i64 most] (w.drewN m) fun e w' => e = .returned (.bool false) ∧ w.drewN m = w') := fun m => by
    rw [← hf, hn]
    exact full_any n most _
  have HB := Lib.hid h.B
  have HL := Lib.hid hL
  have HN := Lib.hid hn
  have HGB := Lib.hid h.b
  clear h hf hL hn
  go_enter Tryz.func46, Tryz.ntmps46
  go_upto_region 1 with fail
  go_quiet ((go_at_call 76; exact qleft (H1.out _)))
  rename_i nq _
  obtain ⟨z, hz⟩ : ∃ z, z = w.drewN nq := ⟨_, rfl⟩
  have hfz : Fr [] w z := by rw [hz]; exact (Fr.refl _ _).drewN _
  have HBz := Lib.hid (HB.out.fr hfz (by simp))
  have HLz := Lib.hid (HL.out.fr hfz (by simp))
  have HFz := Lib.hid hfz
  have cz1 : z.cell? ⟨g, 1, none⟩ = some (.slice A n cp) := HBz.out.cell 1
  have hsz := hfz.size
  rw [← hz]
  clear hfz hz
  go_wp2_with (at_builtin; refine wpList_append_lst _ rfl (.tmp 19) (.tmp 21) _ rfl b0 9 i2 _ 1 16 Tryz.underlying72 hi2 hz2 hs2 hb2 rfl _ n (sV l) rfl (HLz.out.alloc _) ⟨z.heap.size, 0, none⟩ 1 1 [.string x] rfl rfl (World.news_of_block (heap_alloc_new _ _)) ?c2 ?c3 ?c4 ?c5 ?c6)
  case c2 => simp [Value.oneCell']
  case c3 => unfold maxLen; omega
  case c4 => omega
  case c5 => first | omega | (simp; omega)
  case c6 =>
    intro v2 w7 hown hgrow hat
    have hne : ∀ j, (Value.slice A n cp).ownBlock = some j → j ≠ g := HLz.out.ne_bk HBz.out (by decide)
    have hfr : Fr (Value.slice A n cp).ownBlock.toList z w7 := ((Fr.refl _ _).alloc _).grown hgrow (fun j hj => .inl (by simp [hj]))
    have HB7 := Lib.hid (HBz.out.fr hfr (fun hx => hne _ (by simpa using hx) rfl))
    have HF7 : Hid (Fr (skT g (.slice A n cp)) w w7) := (HFz.out.mono (by simp)).trans hfr (fun j hj => .inl (by unfold skT; exact List.mem_cons_of_mem _ hj))
    have HL7 : Hid (Lst w7 b0 9 1 v2 (n + 1) (sV l ++ [.string x])) := hown
    have HA7 : Hid (∀ j, v2.ownBlock = some j → (Value.slice A n cp).ownBlock = some j ∨ w.heap.size ≤ j) := fun j hj => by
      rcases hat with e | e
      · exact .inl (e ▸ hj)
      · rw [e] at hj
        injection hj with hj
        refine .inr ?_
        rw [← hj]
        try simp
        omega
    have cz := HB7.out.cell 1
    have fz := HB7.out.free 1
    obtain ⟨A2, cap2, rfl, _, _⟩ := HL7.out.look
    clear hown hgrow hat hfr hne cz1 c0 c1
    go_wp2_with fail
    go_ret
    have hne2 : ∀ j, (Value.slice A2 (n + 1) cap2).ownBlock = some j → j ≠ g := HL7.out.ne_bk HB7.out (by decide)
    refine ⟨rfl, _, ⟨HB7.out.put 1 _, ?_, HGB.out⟩, HF7.out.setCell (.inl (by simp [skT])) _, fun j hj => ?_⟩
    · have := HL7.out.far (p := ⟨g, 1, none⟩) hne2 (.slice A2 (n + 1) cap2)
      unfold sV at this ⊢
      rw [List.map_append, List.length_append, HN.out]
      exact this
    · simp only [skT, List.mem_cons, Option.mem_toList] at hj ⊢
      rcases hj with e | e
      · exact .inl (.inl e)
      · rcases HA7.out j e with e | e
        · exact .inl (.inr e)
        · exact .inr e
theorem text_none (b0 g : Nat) (most : Int) (v : Value) (w : World) (h : Sx 124 b0 w g most v []) :
    Calls Tryz.prog 48 #[.pointer (some ⟨g, 0, none⟩)] w fun e w' => e = .returned (.tuple #[.string ⟨#[]⟩, .bool false]) ∧ w = w' := by
  obtain ⟨A, cp, rfl, _, _⟩ := h.L.look
  have c1 : w.cell? ⟨g, 1, none⟩ = some (.slice A 0 cp) := h.B.cell 1
  clear h
  go_enter Tryz.func48, Tryz.ntmps48
  go_wp2_with fail
  go_ret2
  exact ⟨rfl, rfl⟩
set_option maxHeartbeats 800000 in
theorem text_take (b0 g : Nat) (most : Int) (v : Value) (l : List ByteArray) (q : Nat) (x : ByteArray) (w : World) (h : Sx 124 b0 w g most v l) (hn : l.length = q + 1) (hx : l[0]? = some x) (l' : List ByteArray) (hl' : l' = l.drop 1) (ht : 124 ≠ 9) :
    Calls Tryz.prog 48 #[.pointer (some ⟨g, 0, none⟩)] w (SxTo 124 b0 g most v (l') (.tuple #[.string x, .bool true]) w) := by
  have HQ := Lib.hid hl'
  clear hl'
  have hL := h.L
  rw [hn] at hL
  obtain ⟨gs, off, cp, rfl, hgb, _, hnc, hcm, _, hfz, hcell⟩ := hL.form (by omega)
  have cx := hcell 0 _ (sV_at hx)
  have fx := hfz (off + 0)
  try simp only [Nat.add_zero] at cx fx
  have c1 : w.cell? ⟨g, 1, none⟩ = some (.slice (some ⟨gs, off, none⟩) (q + 1) cp) := h.B.cell 1
  have fg := h.B.free 1
  have hne : gs ≠ g := hL.ne_bk h.B (by decide) gs rfl
  have hne' : g ≠ gs := hne.symm
  have HB := Lib.hid h.B
  have HL := Lib.hid hL
  have HGB := Lib.hid h.b
  have HN := Lib.hid hn
  have HX := Lib.hid hx
  have hq0 : (0 : Int) ≤ (q : Int) := by omega
  have hq1 : (q : Int) < ((q + 1 : Nat) : Int) := by omega
  have hq2 : IntKind.i64.wrap (((q + 1 : Nat) : Int) - 1) = (q : Int) := by rw [show ((q + 1 : Nat) : Int) - 1 = (q : Int) by omega]; exact IntWalk.i64_in _ (by unfold maxLen at hcm; omega)
  have hq3 : (q : Int) ≤ (cp : Int) := by omega
  have hql : q + 1 ≤ 9223372036854775807 := by unfold maxLen at hcm; omega
  have hcl : cp ≤ 9223372036854775807 := by unfold maxLen at hcm; omega
  have hq4 : decide ((q : Int) < 0) = false := decide_eq_false (by omega)
  have hz1 : (((q + 1 : Nat) : Int) == 0) = false := by simpa using (show ¬ ((q + 1 : Nat) : Int) = 0 by omega)
  clear h hL hn hcell hfz hx
  by_cases hc1 : cp = 1
  · subst hc1
    obtain rfl : q = 0 := by omega
    have hL1 := (HL.out.put (j := 0) (.string ⟨#[]⟩)).cut (k := 1) (by omega)
    simp only [if_true, Nat.add_zero, Nat.sub_self] at hL1
    have hB1 := (HB.out.far (p := ⟨gs, off, none⟩) hne' (.string ⟨#[]⟩)).put 1 (.slice (some ⟨gs, off, none⟩) 0 0)
    have HL1 := Lib.hid hL1
    have HB1 := Lib.hid hB1
    clear hL1 hB1
    go_enter Tryz.func48, Tryz.ntmps48
    go_wp2_with fail
    go_ret2
    refine ⟨rfl, .slice (some ⟨gs, off, none⟩) 0 0, ⟨HB1.out, ?_, HGB.out⟩, ((Fr.refl _ _).setCell (.inl (by simp [skT, Value.ownBlock])) _).setCell (.inl (by simp [skT])) _, fun j hj => .inl (by simpa [skT, Value.ownBlock] using hj)⟩
    have := HL1.out.far (p := ⟨g, 1, none⟩) (fun j hj => by have : gs = j := (by simpa [Value.ownBlock] using hj); show j ≠ g; omega) (.slice (some ⟨gs, off, none⟩) 0 0)
    rw [HQ.out, List.length_drop, HN.out]
    unfold sV at this ⊢
    rw [List.map_drop]
    rw [List.drop_set_of_lt (by omega)] at this
    exact this
  · have hL1 := (HL.out.put (j := 0) (.string ⟨#[]⟩)).cut (k := 1) (by omega)
    rw [if_neg hc1] at hL1
    simp only [Nat.add_zero, Nat.add_sub_cancel, Nat.one_mul] at hL1
    have hB1 := (HB.out.far (p := ⟨gs, off, none⟩) hne' (.string ⟨#[]⟩)).put 1 (.slice (some ⟨gs, off + 1, none⟩) q (cp - 1))
    have HL1 := Lib.hid hL1
    have HB1 := Lib.hid hB1
    clear hL1 hB1
    go_enter Tryz.func48, Tryz.ntmps48
    go_wp2_with fail
    go_ret2
    refine ⟨rfl, .slice (some ⟨gs, off + 1, none⟩) q (cp - 1), ⟨HB1.out, ?_, HGB.out⟩, ((Fr.refl _ _).setCell (.inl (by simp [skT, Value.ownBlock])) _).setCell (.inl (by simp [skT])) _, fun j hj => .inl (by simpa [skT, Value.ownBlock] using hj)⟩
    have := HL1.out.far (p := ⟨g, 1, none⟩) (fun j hj => by have : gs = j := (by simpa [Value.ownBlock] using hj); show j ≠ g; omega) (.slice (some ⟨gs, off + 1, none⟩) q (cp - 1))
    rw [HQ.out, List.length_drop, HN.out, Nat.add_sub_cancel]
    unfold sV at this ⊢
    rw [List.map_drop]
    rw [List.drop_set_of_lt (by omega)] at this
    exact this
theorem SxTo.same {t : TypeId} {b0 : Nat} {w w' : World} {g : Nat} {most : Int} {v : Value} {l : List ByteArray} {r : Value} (h : Sx t b0 w g most v l) (hf : Fr [] w w') : SxTo t b0 g most v l r w (.returned r) w' :=
  ⟨rfl, v, h.fr hf (by simp), hf.mono (by simp), fun x hx => .inl hx⟩
theorem txt_add (b0 g : Nat) (most : Int) (v : Value) (L : List ByteArray) (x : ByteArray) (w : World) (h : Sx 124 b0 w g most v L) (hl : L.length ≤ 1000000) (hb : b0 ≤ w.heap.size) :
    Calls Tryz.prog 46 #[.pointer (some ⟨g, 0, none⟩), .string x] w (SxTo 124 b0 g most v (addX most L x) (.int .i64 (addXE most L)) w) := by
  unfold addX addXE
  cases hf : fullB L.length most with
  | true => exact text_full b0 g most v _ x w h hf
  | false => exact text_add b0 g most v _ x w h hf (by omega) hb (by decide)
theorem txt_take (b0 g : Nat) (most : Int) (v : Value) (L : List ByteArray) (w : World) (h : Sx 124 b0 w g most v L) :
    Calls Tryz.prog 48 #[.pointer (some ⟨g, 0, none⟩)] w (SxTo 124 b0 g most v L.tail (.tuple #[.string (popXX L), .bool (popXB L)]) w) := by
  cases L with
  | nil => exact (text_none b0 g most v w h).mono (fun e w' hh => by obtain ⟨rfl, rfl⟩ := hh; exact SxTo.same h (Fr.refl _ _))
  | cons x L => exact text_take b0 g most v _ L.length x w h (by simp) rfl L rfl (by decide)
theorem rtakeX (b0 g : Nat) (v : Value) (most : Int) (L : List ByteArray) (w : World) (h : Nb 79 9 b0 w g v most (sV L)) (hl : L.length ≤ 1000000) (hb : b0 ≤ w.heap.size) :
    Calls Tryz.prog 49 #[.pointer (some ⟨g, 0, none⟩)] w (NbTo 79 9 b0 g v most (sV L.tail) (.tuple #[.string (popXX L), .bool (popXB L)]) w) := by
  cases L with
  | nil => exact (rnoneT b0 g v most w h).mono (fun e w' hh => by obtain ⟨rfl, rfl⟩ := hh; exact NbTo.same h (Fr.refl _ _))
  | cons x L => exact rtakeT b0 g v most L x w h (by simp at hl; omega) hb
end Go.Proofs.YtdjaalkbpdmdgaaGreat
namespace Go.Proofs.YtdjaalkbpdmdgaaGreat
open Go.RowKit Go.Shelf
set_option linter.unusedVariables false
def RdS (w : World) (A : Option Addr) (l : List ByteArray) : Prop :=
  l.length ≤ 9223372036854775807 ∧ (0 < l.length → ∃ b o, A = some ⟨b, o, none⟩ ∧ b < w.heap.size ∧ ∀ i x, l[i]? = some x → w.cell? ⟨b, o + i, none⟩ = some (.string x))
theorem RdS.nil (w : World) (A : Option Addr) : RdS w A [] := ⟨by simp, fun h => absurd h (by simp)⟩
theorem RdS.fr {w w' : World} {A : Option Addr} {l : List ByteArray} {S : List Nat} (h : RdS w A l) (hf : Fr S w w') (hS : ∀ a, A = some a → a.block ∉ S) : RdS w' A l :=
  ⟨h.1, fun hn => by
    obtain ⟨b, o, rfl, hb, hr⟩ := h.2 hn
    exact ⟨b, o, rfl, Nat.lt_of_lt_of_le hb hf.size, fun i x hx => (World.cell?_of_block (hf.block b hb (hS _ rfl))).trans (hr i x hx)⟩⟩
theorem Lst.rds {w : World} {b0 : Nat} {e : TypeId} {A : Option Addr} {n cp : Nat} {l : List ByteArray} (h : Lst w b0 e 1 (.slice A n cp) n (sV l)) (hn : n = l.length) : RdS w A l := by
  obtain ⟨A', cp', hv, h1, h2⟩ := h.look
  injection hv with _ _ hv3
  subst hv3
  refine ⟨by unfold maxLen at h2; omega, fun h0 => ?_⟩
  obtain ⟨g, off, cap, hv, _, hg, _, _, _, _, hc⟩ := h.form (by omega)
  injection hv with hv1 _ _
  exact ⟨g, off, hv1, hg, fun i x hx => hc i _ (sV_at hx)⟩
theorem sameX_yes (A B : Option Addr) (l : List ByteArray) (n c d : Nat) (w : World) (hn : n = l.length) (h : RdS w A l) (h' : RdS w B l) :
    Calls Tryz.prog 52 #[.slice A n c, .slice B n d] w fun e w' => e = .returned (.bool true) ∧ Fr [] w w' := by
  have H := Lib.hid h
  have H' := Lib.hid h'
  have hlen := h.1
  rw [← hn] at hlen
  have HN := Lib.hid hn
  clear h h' hn
  go_enter Tryz.func52, Tryz.ntmps52
  go_wp2
  go_loopw [5] (fun i wr => ∃ k : Nat, k ≤ n ∧ i = .int .i64 k ∧ Fr [] w wr) (fun i _ => n - (intOf i).toNat)
  case atStart => exact ⟨0, by omega, rfl, Fr.refl _ _⟩
  case round =>
    obtain ⟨k, hk, rfl, hfr⟩ := hrel
    have HF := Lib.hid hfr
    clear hfr
    by_cases hlt : k < n
    · have HR := Lib.hid (H.out.fr HF.out (by simp))
      have HR' := Lib.hid (H'.out.fr HF.out (by simp))
      obtain ⟨b, o, rfl, hb, hc⟩ := HR.out.2 (by have := HN.out; omega)
      obtain ⟨b', o', rfl, hb', hc'⟩ := HR'.out.2 (by have := HN.out; omega)
      have hx : ∃ x, l[k]? = some x := ⟨_, List.getElem?_eq_getElem (by have := HN.out; omega)⟩
      obtain ⟨x, hx⟩ := hx
      have c1 := hc k x hx
      have c2 := hc' k x hx
      clear hc hc' hx
      have e3 : (x.toList == x.toList) = true := by simp
      have e1 : (k : Int) < (n : Int) := by omega
      have e2 : (0 : Int) ≤ (k : Int) := by omega
      go_wp2
      go_quiet (fail)
      go_wp2
      go_roundw
      case rel => exact ⟨k + 1, by omega, by go_num, HF.out.drewN _⟩
      case measure => simp [intOf]; omega
    · go_wp2
      go_ret
      exact ⟨rfl, HF.out⟩
/-- What ints' closure holds. -/
structure IwS (n₀ bo be bl bs : Nat) (stop : Int) (ended : Bool) (pre : List ByteArray) (W : World) : Prop where
  O : Bk W bo 4 #[.bool true]
  E : Bk W be 4 #[.bool ended]
  S : Bk W bs 3 #[.int .i64 stop]
  L : ∃ v, Bk W bl 72 #[v] ∧ Lst W n₀ 9 1 v pre.length (sV pre)
  g : ended = false → stop < 1 ∨ (pre.length : Int) < stop
  x : ended = true → (pre.length : Int) = stop ∧ 0 < pre.length

set_option maxRecDepth 100000 in
set_option maxHeartbeats 1600000 in
theorem strings1 (n₀ bo be bl bs : Nat) (stop : Int) (pre : List ByteArray) (x : ByteArray) (W : World) (hI : IwS n₀ bo be bl bs stop false pre W) (hne : bo ≠ be) (hlen : pre.length < 1000000) (hn : n₀ ≤ W.heap.size) (hlt : bo < n₀ ∧ be < n₀ ∧ bl < n₀ ∧ bs < n₀) :
    Calls Tryz.prog 85 #[.string x, .pointer (some ⟨bo, 0, none⟩), .pointer (some ⟨be, 0, none⟩), .pointer (some ⟨bl, 0, none⟩), .pointer (some ⟨bs, 0, none⟩)] W
      (Usr n₀ [bo, be, bl] (IwS n₀ bo be bl bs stop false) (IwS n₀ bo be bl bs stop true) pre x W) := by
  obtain ⟨v, hB, hL⟩ := hI.L
  obtain ⟨A, cp, rfl, _, _⟩ := hL.look
  have co : W.cell? ⟨bo, 0, none⟩ = some (.bool true) := hI.O.cell 0
  have ce : W.cell? ⟨be, 0, none⟩ = some (.bool false) := hI.E.cell 0
  have cl : W.cell? ⟨bl, 0, none⟩ = some (.slice A pre.length cp) := hB.cell 0
  have cs : W.cell? ⟨bs, 0, none⟩ = some (.int .i64 stop) := hI.S.cell 0
  have fo := hI.O.free 0
  have fe := hI.E.free 0
  have fl := hB.free 0
  have n1 : bl ≠ bo := hB.ne hI.O (by decide)
  have n2 : bl ≠ be := hB.ne hI.E (by decide)
  have n3 : bs ≠ bo := hI.S.ne hI.O (by decide)
  have n4 : bs ≠ be := hI.S.ne hI.E (by decide)
  have n5 : bs ≠ bl := hI.S.ne hB (by decide)
  have n6 := n1.symm
  have n7 := n2.symm
  have n8 := n3.symm
  have n9 := n4.symm
  have n10 := n5.symm
  have n11 := hne.symm
  have HI := Lib.hid hI
  have HB := Lib.hid hB
  have HL := Lib.hid hL
  clear hI hB hL
  obtain ⟨i2, hi2, hz2, hs2, hb2⟩ := info_parts' str_info
  obtain ⟨z, hz⟩ : ∃ z, z = W.setCell ⟨bo, 0, none⟩ (.bool true) := ⟨_, rfl⟩
  have hsz : z.heap.size = W.heap.size := by rw [hz]; simp
  have hfz : Fr [bo] W z := by rw [hz]; exact (Fr.refl _ _).setCell (by simp) _
  have HIO : Hid (Bk z bo 4 #[.bool true]) := by rw [hz]; exact HI.out.O.put 0 (.bool true)
  have HIE : Hid (Bk z be 4 #[.bool false]) := HI.out.E.fr hfz (by simpa using n11)
  have HIS : Hid (Bk z bs 3 #[.int .i64 stop]) := HI.out.S.fr hfz (by simpa using n3)
  have HIB : Hid (Bk z bl 72 #[.slice A pre.length cp]) := HB.out.fr hfz (by simpa using n1)
  have HLz : Hid (Lst z n₀ 9 1 (.slice A pre.length cp) pre.length (sV pre)) := HL.out.fr hfz (fun k hk => by have := (HL.out.lt k hk).1; simp; omega)
  have HFZ : Hid (Fr [bo] W z) := hfz
  go_enter Tryz.func85, Tryz.ntmps85
  go_upto_region 2 with fail
  rw [← hz]
  have cl2 : z.cell? ⟨bl, 0, none⟩ = some (.slice A pre.length cp) := HIB.out.cell 0
  have cs2 : z.cell? ⟨bs, 0, none⟩ = some (.int .i64 stop) := HIS.out.cell 0
  have ce2 : z.cell? ⟨be, 0, none⟩ = some (.bool false) := HIE.out.cell 0
  have co2 : z.cell? ⟨bo, 0, none⟩ = some (.bool true) := HIO.out.cell 0
  have fo2 := HIO.out.free 0
  have fe2 := HIE.out.free 0
  have fl2 := HIB.out.free 0
  clear hz hfz co ce cl cs fo fe fl
  go_wp2_with (at_builtin; go_loud (refine wpList_append_lst _ rfl (.tmp 12) (.tmp 14) _ rfl n₀ 9 i2 _ 1 16 Tryz.underlying72 hi2 hz2 hs2 hb2 rfl _ pre.length (sV pre) rfl (HLz.out.alloc _) ⟨W.heap.size, 0, none⟩ 1 1 [.string x] rfl rfl (by rw [← hsz]; exact World.news_of_block (heap_alloc_new _ _)) ?c2 ?c3 ?c4 ?c5 ?c6))
  case c2 => simp [Value.oneCell']
  case c3 => unfold maxLen; omega
  case c4 => omega
  case c5 => first | omega | (simp; omega)
  case c6 =>
    intro v2 w7 hown hgrow hat
    have hlo := HLz.out.lt
    have hfr : Fr (Value.slice A pre.length cp).ownBlock.toList z w7 := ((Fr.refl _ _).alloc _).grown hgrow (fun j hj => .inl (by simp [hj]))
    have hnn : ∀ b, b < n₀ → b ∉ (Value.slice A pre.length cp).ownBlock.toList := fun b hb hx => by have := (hlo b (by simpa using hx)).1; omega
    have HO7 := Lib.hid (HIO.out.fr hfr (hnn _ hlt.1))
    have HE7 := Lib.hid (HIE.out.fr hfr (hnn _ hlt.2.1))
    have HB7 := Lib.hid (HIB.out.fr hfr (hnn _ hlt.2.2.1))
    have HS7 := Lib.hid (HIS.out.fr hfr (hnn _ hlt.2.2.2))
    have HK7 : Hid (Kb n₀ [bo, be, bl] W w7) := (HFZ.out.kb (by simp)).trans (hfr.kb (fun y hy => .inr (hlo y (by simpa using hy)).1))
    have HL7 : Hid (Lst w7 n₀ 9 1 v2 (pre.length + 1) (sV pre ++ [.string x])) := hown
    have k1 := HO7.out.cell 0
    have k2 := HE7.out.cell 0
    have k3 := HB7.out.cell 0
    have k4 := HS7.out.cell 0
    have j1 := HO7.out.free 0
    have j2 := HE7.out.free 0
    have j3 := HB7.out.free 0
    obtain ⟨A2, cap2, rfl, _, _⟩ := HL7.out.look
    clear hown hgrow hat hfr hnn hlo cl2 cs2 ce2 co2 fo2 fe2 fl2
    have fin : ∀ b : Bool, Hid (IwS n₀ bo be bl bs stop b (pre ++ [x]) ((w7.setCell ⟨bl, 0, none⟩ (.slice A2 (pre.length + 1) cap2)).setCell ⟨be, 0, none⟩ (.bool b)) ∨ ¬ (b = decide (((pre.length : Nat) : Int) + 1 = stop))) ∧
        Hid (Kb n₀ [bo, be, bl] W ((w7.setCell ⟨bl, 0, none⟩ (.slice A2 (pre.length + 1) cap2)).setCell ⟨be, 0, none⟩ (.bool b))) := by
      intro b
      have s1 : Fr [bl] w7 (w7.setCell ⟨bl, 0, none⟩ (.slice A2 (pre.length + 1) cap2)) := (Fr.refl _ _).setCell (by simp) _
      have s2 : Fr [be] (w7.setCell ⟨bl, 0, none⟩ (.slice A2 (pre.length + 1) cap2)) ((w7.setCell ⟨bl, 0, none⟩ (.slice A2 (pre.length + 1) cap2)).setCell ⟨be, 0, none⟩ (.bool b)) := (Fr.refl _ _).setCell (by simp) _
      refine ⟨?_, HK7.out.trans ((s1.kb (by simp)).trans (s2.kb (by simp)))⟩
      by_cases hb : b = decide (((pre.length : Nat) : Int) + 1 = stop)
      · refine .inl ⟨(HO7.out.fr s1 (by simpa using n6)).fr s2 (by simpa using hne), (HE7.out.fr s1 (by simpa using n7)).put 0 (.bool b), (HS7.out.fr s1 (by simpa using n5)).fr s2 (by simpa using n4), ⟨_, (HB7.out.put 0 (.slice A2 (pre.length + 1) cap2)).fr s2 (by simpa using n2), ?_⟩, ?_, ?_⟩
        · have := (HL7.out.fr s1 (fun k hk => by have := (HL7.out.lt k hk).1; simp; omega)).fr s2 (fun k hk => by have := (HL7.out.lt k hk).1; simp; omega)
          unfold sV at this ⊢
          rw [List.map_append, List.length_append]
          exact this
        · intro h
          rw [h] at hb
          have := of_decide_eq_false hb.symm
          have := HI.out.g rfl
          simp
          omega
        · intro h
          rw [h] at hb
          have := of_decide_eq_true hb.symm
          exact ⟨by simpa using this, by simp⟩
      · exact .inr hb
    obtain ⟨f1, f2⟩ := fin true
    obtain ⟨f3, f4⟩ := fin false
    clear fin
    by_cases hst : ((pre.length : Nat) : Int) + 1 = stop
    · have e1 : (((pre.length : Nat) : Int) + 1 == stop) = true := by simpa using hst
      go_wp2_with fail
      go_ret
      refine ⟨false, rfl, f2.out, fun h => (by cases h), fun _ => ?_⟩
      rcases f1.out with h | h
      · exact h
      · exact absurd (decide_eq_true hst).symm h
    · have e1 : (((pre.length : Nat) : Int) + 1 == stop) = false := by simpa using hst
      have e2 : ((pre.length : Nat) : Int) + 1 < 1048576 := by omega
      go_wp2_with fail
      go_ret
      refine ⟨true, rfl, f4.out, fun _ => ?_, fun h => (by cases h)⟩
      rcases f3.out with h | h
      · exact h
      · exact absurd (decide_eq_false hst).symm h
theorem IwS.alloc {n₀ bo be bl bs : Nat} {stop : Int} {ended : Bool} {pre : List ByteArray} {W : World} (h : IwS n₀ bo be bl bs stop ended pre W) (o : Obj) : IwS n₀ bo be bl bs stop ended pre (W.alloc o) := by
  obtain ⟨v, hB, hL⟩ := h.L
  exact ⟨h.O.alloc o, h.E.alloc o, h.S.alloc o, ⟨v, hB.alloc o, hL.alloc o⟩, h.g, h.x⟩
theorem IwS.done {n₀ n₁ bo be bl bs : Nat} {stop : Int} {L : List ByteArray} {W : World}
    (h : IwS n₀ bo be bl bs stop false L W ∨ ∃ pre, pre <+: L ∧ IwS n₀ bo be bl bs stop true pre W) (hn : n₁ ≤ n₀) : Bk W bo 4 #[.bool true] ∧ Bk W bs 3 #[.int .i64 stop] ∧ ∃ v, Bk W bl 72 #[v] ∧ Lst W n₁ 9 1 v (stopL L stop).length (sV (stopL L stop)) := by
  rcases h with h | ⟨pre, ⟨r, rfl⟩, h⟩
  · obtain ⟨v, hB, hL⟩ := h.L
    have : stopL L stop = L := by
      unfold stopL
      split
      · exact List.take_of_length_le (by have := h.g rfl; omega)
      · rfl
    rw [this]
    exact ⟨h.O, h.S, v, hB, hL.mono hn⟩
  · obtain ⟨v, hB, hL⟩ := h.L
    obtain ⟨hx, hp⟩ := h.x rfl
    by_cases h1 : 1 ≤ stop
    · have : stopL (pre ++ r) stop = pre := by
        unfold stopL
        rw [if_pos h1, show stop.toNat = pre.length by omega]
        exact List.take_left' rfl
      rw [this]
      exact ⟨h.O, h.S, v, hB, hL.mono hn⟩
    · omega

set_option maxRecDepth 100000 in
set_option maxHeartbeats 1600000 in
theorem strings_any (gs : Nat) (sc : Array Value) (L : List ByteArray) (B : List Nat) (stop : Int) (hl : L.length ≤ 1000000) (w : World) (hS : Seq Tryz.prog gs sc L encS B w) (eg : ∀ args w, (callFunc gs args).run Tryz.prog w = .ok (.enter gs args) w) :
    Calls Tryz.prog 54 #[.func (.func gs) #[] sc, .int .i64 stop] w fun e w' => ∃ v, e = .returned (.tuple #[v, .bool true]) ∧ Lst w' w.heap.size 9 1 v (stopL L stop).length (sV (stopL L stop)) ∧ Fr [] w w' := by
  have HS := Lib.hid hS
  have HL := Lib.hid hl
  have HE := Lib.hid eg
  clear hS hl
  go_enter Tryz.func54, Tryz.ntmps54
  have hnf := eql_nilF 105 ⟨_, _, _, Tryz.underlying105⟩ (.func gs) #[] sc (w.alloc (.cells #[.int .i64 stop] 3))
  go_upto_region 6 with fail
  clear hnf
  go_loopw [8] (fun i wr => ∃ k : Nat, k ≤ 2 ∧ i = .int .i64 k ∧ Hid (Fr [] w wr) ∧ Hid (Bk wr w.heap.size 3 #[.int .i64 stop]) ∧ Hid (Bk wr (w.heap.size + 1 + 1) 4 #[.bool true]) ∧ Hid (∃ v, Bk wr (w.heap.size + 1) 72 #[v] ∧ Lst wr w.heap.size 9 1 v (if k = 0 then [] else stopL L stop).length (sV (if k = 0 then [] else stopL L stop)))) (fun i _ => 2 - (intOf i).toNat)
  case atStart =>
    refine ⟨0, by omega, rfl, ?_, ?_, ?_, ?_⟩
    · exact (((Fr.refl [] w).alloc _).alloc _).alloc _
    · exact ((Bk.new _ _ _).alloc _).alloc _
    · exact Bk.new_at _ _ _ _ (by simp)
    · exact ⟨_, (Bk.new_at _ _ _ _ (by simp)).alloc _, Lst.nil _ _ _ _⟩
  case round =>
    obtain ⟨k, hk, rfl, HF, HSt, HO, HV⟩ := hrel
    obtain ⟨v, hB, hLv⟩ := HV.out
    have HB := Lib.hid hB
    have HLv := Lib.hid hLv
    have cb := hB.cell 0
    have fb := hB.free 0
    clear hB hLv HV
    by_cases hlt : k < 2
    · have hlt' : decide ((k : Int) < 2) = true := decide_eq_true (by omega)
      go_upto_region 11 with fail
      obtain ⟨z, hz⟩ : ∃ z, z = (wr.setCell ⟨w.heap.size + 1, 0, none⟩ (.slice none 0 0)).alloc (.cells #[.bool false] 4) := ⟨_, rfl⟩
      have hfz : Fr [w.heap.size + 1] wr z := by rw [hz]; exact ((Fr.refl _ _).setCell (by simp) _).alloc _
      have hzs : z.heap.size = wr.heap.size + 1 := by rw [hz]; simp
      have hsw := HF.out.size
      have hb3 := HO.out.lt
      have ZE : Hid (Bk z wr.heap.size 4 #[.bool false]) := by rw [hz]; exact Bk.new_at _ _ _ _ (by simp)
      have ZB : Hid (Bk z (w.heap.size + 1) 72 #[.slice none 0 0]) := by rw [hz]; exact (HB.out.put 0 (.slice none 0 0)).alloc _
      have ZO : Hid (Bk z (w.heap.size + 1 + 1) 4 #[.bool true]) := HO.out.fr hfz (by simp)
      have ZS : Hid (Bk z w.heap.size 3 #[.int .i64 stop]) := HSt.out.fr hfz (by simp)
      have ZF : Hid (Fr [] w z) := HF.out.trans hfz (by simp)
      have ZV : Hid (Lst z w.heap.size 9 1 v (if k = 0 then [] else stopL L stop).length (sV (if k = 0 then [] else stopL L stop))) := HLv.out.fr hfz (fun j hj hx => HLv.out.ne_bk HB.out (by decide) j hj (by simpa using hx))
      have hB1 := HS.out.1
      have ZH : Hid (Hand Tryz.prog gs sc L encS z) := (HS.out.sm (Sm.of_fr ZF.out (fun x hx => ⟨hB1 x hx, by simp⟩))).hand
      rw [← hz]
      clear hz hfz hB1 HO HSt HLv HB HF cb fb
      go_wp2_with fail
      refine (ZH.out 85 #[.pointer (some ⟨w.heap.size + 1 + 1, 0, none⟩), .pointer (some ⟨wr.heap.size, 0, none⟩), .pointer (some ⟨w.heap.size + 1, 0, none⟩), .pointer (some ⟨w.heap.size, 0, none⟩)] (enters_of Tryz.func85 (by kernel_rfl) rfl)
        [w.heap.size + 1 + 1, wr.heap.size, w.heap.size + 1] (by simp; omega)
        (fun n₀ => IwS n₀ (w.heap.size + 1 + 1) wr.heap.size (w.heap.size + 1) w.heap.size stop false) (fun n₀ => IwS n₀ (w.heap.size + 1 + 1) wr.heap.size (w.heap.size + 1) w.heap.size stop true) (fun _ _ _ o h => h.alloc o)
        (fun n₀ W h1 h2 h3 => ⟨ZO.out.fr h3 (by simp), ZE.out.fr h3 (by simp), ZS.out.fr h3 (by simp), ⟨_, ZB.out.fr h3 (by simp), Lst.nil _ _ _ _⟩, fun _ => by simp; omega, fun h => by cases h⟩)
        (fun n₀ pre x W h1 h2 h3 h4 h5 => strings1 n₀ (w.heap.size + 1 + 1) wr.heap.size (w.heap.size + 1) w.heap.size stop pre x W h5 (by omega) (by have h6 := h3.length_le; have h7 := HL.out; simp only [List.length_append, List.length_cons, List.length_nil] at h6; omega) h2 (by omega))).mono ?_
      rintro e w3 ⟨rfl, hf3, n₀, hn1, hn2, hu⟩
      obtain ⟨hO3, hS3, v3, hB3, hL3⟩ := IwS.done (n₁ := w.heap.size) hu (by omega)
      have ZF3 : Hid (Fr [] w w3) := ZF.out.trans hf3 (by simp; omega)
      have ZV3 : Hid (Lst w3 w.heap.size 9 1 v (if k = 0 then [] else stopL L stop).length (sV (if k = 0 then [] else stopL L stop))) := ZV.out.fr hf3 (fun j hj hx => by
        simp only [List.mem_cons, List.not_mem_nil, or_false] at hx
        rcases hx with hx | hx | hx
        · exact ZV.out.ne_bk ZO.out (by decide) j hj hx
        · exact ZV.out.ne_bk ZE.out (by decide) j hj hx
        · exact ZV.out.ne_bk ZB.out (by decide) j hj hx)
      have ZO3 := Lib.hid hO3
      have ZS3 := Lib.hid hS3
      have ZB3 := Lib.hid hB3
      have ZL3 := Lib.hid hL3
      have cO := hO3.cell 0
      have cB := hB3.cell 0
      have fO := hO3.free 0
      clear hf3 hu hO3 hS3 hB3 hL3 ZO ZE ZS ZB ZV ZF ZH
      have REL : ∀ w4, Fr [] w3 w4 → Hid (Fr [] w (w4.setCell ⟨w.heap.size + 1 + 1, 0, none⟩ (.bool true))) ∧ Hid (Bk (w4.setCell ⟨w.heap.size + 1 + 1, 0, none⟩ (.bool true)) w.heap.size 3 #[.int .i64 stop]) ∧
          Hid (Bk (w4.setCell ⟨w.heap.size + 1 + 1, 0, none⟩ (.bool true)) (w.heap.size + 1 + 1) 4 #[.bool true]) ∧
          Hid (∃ v, Bk (w4.setCell ⟨w.heap.size + 1 + 1, 0, none⟩ (.bool true)) (w.heap.size + 1) 72 #[v] ∧ Lst (w4.setCell ⟨w.heap.size + 1 + 1, 0, none⟩ (.bool true)) w.heap.size 9 1 v (stopL L stop).length (sV (stopL L stop))) := fun w4 h4 => by
        have s1 : Fr [w.heap.size + 1 + 1] w4 (w4.setCell ⟨w.heap.size + 1 + 1, 0, none⟩ (.bool true)) := (Fr.refl _ _).setCell (by simp) _
        refine ⟨(ZF3.out.trans h4 (by simp)).trans s1 (by simp; omega), (ZS3.out.fr h4 (by simp)).fr s1 (by simp; omega), (ZO3.out.fr h4 (by simp)).put 0 (.bool true), _, (ZB3.out.fr h4 (by simp)).fr s1 (by simp), (ZL3.out.fr h4 (by simp)).fr s1 (fun j hj hx => ?_)⟩
        exact ZL3.out.ne_bk ZO3.out (by decide) j hj (by simpa using hx)
      by_cases hk0 : k = 0
      · subst hk0
        go_wp2_with fail
        go_roundw
        case rel =>
          obtain ⟨r1, r2, r3, r4⟩ := REL w3 (Fr.refl _ _)
          exact ⟨1, by omega, rfl, r1, r2, r3, r4⟩
        case measure => decide
      · obtain rfl : k = 1 := by omega
        obtain ⟨A3, cp3, rfl, _, _⟩ := ZL3.out.look
        obtain ⟨A4, cp4, rfl, _, _⟩ := ZV3.out.look
        have hr1 := ZV3.out.rds (by rw [if_neg (by omega)])
        rw [if_neg (by omega)] at hr1 ZV3
        go_wp2_with fail
        refine (sameX_yes A4 A3 (stopL L stop) _ cp4 cp3 w3 rfl hr1 (ZL3.out.rds rfl)).mono ?_
        rintro e w4 ⟨rfl, hf4⟩
        obtain ⟨r1, r2, r3, r4⟩ := REL w4 hf4
        have cO4 := (ZO3.out.fr hf4 (by simp)).cell 0
        have fO4 := (ZO3.out.fr hf4 (by simp)).free 0
        clear hr1 REL cO cB fO
        go_wp2_with fail
        go_roundw
        case rel => exact ⟨2, by omega, rfl, r1, r2, r3, r4⟩
        case measure => decide
    · obtain rfl : k = 2 := by omega
      have cO := HO.out.cell 0
      have cB := HB.out.cell 0
      go_wp2_with fail
      go_quiet (fail)
      go_wp2_with fail
      go_ret2
      exact ⟨v, rfl, HLv.out.drewN _, HF.out.drewN _⟩
end Go.Proofs.YtdjaalkbpdmdgaaGreat
