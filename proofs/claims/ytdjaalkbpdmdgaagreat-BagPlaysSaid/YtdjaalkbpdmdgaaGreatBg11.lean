import Derived.Test.YtdjaalkbpdmdgaaGreatBg10
namespace Go.Proofs.YtdjaalkbpdmdgaaGreat
open Go.RowKit Go.Shelf
set_option linter.unusedVariables false
attribute [local go_sem] Oper.semAt_some

set_option maxRecDepth 100000 in
set_option maxHeartbeats 1600000 in
theorem gatherN (gf : Nat) (fi : Array Value) (L : List PN) (w : World)
    (eg : ∀ args w, (callFunc gf args).run Tryz.prog w = .ok (.enter gf args) w)
    (hH : ∀ z, Fr [] w z → Hands Fence.wide 5 Tryz.prog gf fi (fun x : PN => #[.agg #[kN x.1, vN x.2]]) (Kb w.heap.size []) (fun xs => xs = L) 1000001 z) :
    Calls Tryz.prog 103 #[.func (.func gf) fi #[]] w (fun e w' => ∃ v, e = .returned v ∧ Lst w' w.heap.size 138 2 v L.length (cellsN L) ∧ Fr [] w w') := by
  rw [← callsIn_wide (n := 6)]
  refine callsIn_of_wp_marks Tryz.func103 rfl trivial ?_ rfl
  simp only [Tryz.ntmps103, List.size_toArray, List.length_cons, List.length_nil, Nat.reduceAdd, Nat.reduceSub, Array.replicate_succ, Array.replicate_zero, List.push_toArray, List.append_toArray, List.nil_append, List.cons_append]
  have HH := Lib.hid hH
  have HE := Lib.hid eg
  clear hH eg
  gi_wp2
  obtain ⟨w1, hw1⟩ : ∃ w1, w1 = w.alloc (.cells #[.slice none 0 0] 125) := ⟨_, rfl⟩
  have hf1 : Fr [] w w1 := by rw [hw1]; exact (Fr.refl _ _).alloc _
  have hsz : w1.heap.size = w.heap.size + 1 := by rw [hw1]; simp
  have H0 : Hid (Gth w 125 138 2 cellsN [] w1) := ⟨_, by rw [hw1]; exact Bk.new _ _ _, Lst.nil _ _ _ _, hf1.kb (by simp)⟩
  have HF1 := Lib.hid hf1
  rw [← hw1]
  clear hw1 hf1
  refine wpIn_range_method rfl (by omega) (gf := gf) (fi := fi) rfl trivial HE.out (HH.out w1 HF1.out)
    (fun h k => h.trans k) (fun W l o o' hl h _ => kb_of_grown (grownBy_putObj' W l o') (fun r e => by cases e; omega)) (fun _ => rfl)
    (Gth w 125 138 2 cellsN) (Gth.own _ _ _ _ _ _ (by omega)) H0.out
    (fun x a' W => ∃ bx, w.heap.size < bx ∧ Bk W bx 138 #[kN x.1, vN x.2] ∧ a' = { tmps := #[.func (.func gf) fi #[], undef, .slice none 0 0, .pointer (some ⟨w.heap.size, 0, none⟩), .pointer (some ⟨bx, 0, none⟩), .func (.func gf) fi #[], .agg #[kN x.1, vN x.2], undef, undef, undef, undef, undef], defers := [] })
    (fun x a' s A B row hs hg hr => by
      obtain ⟨bx, h0, h1, h2⟩ := hs
      exact ⟨bx, h0, bk_kept h1 hg (fun r e => (hr r e).2), h2⟩) ?assign ?body ?done
  case assign =>
    intro l pre x W K hI hK
    have hws : w.heap.size + 1 ≤ W.heap.size := by obtain ⟨v, h1, _⟩ := hI; exact h1.lt
    obtain ⟨pk, pv⟩ := x
    unfold kN vN
    gi_wp2
    have hfa : Fr [] W (W.alloc (.cells #[.int .i64 pk, .int .u64 pv] 138)) := (Fr.refl _ _).alloc _
    exact hK _ _ (hfa.keeps (by simp)) (hfa.kb (by simp)) ((Gth.own _ _ _ _ _ (w.heap.size + 1) (by omega)).alloc _ hI) ⟨W.heap.size, by omega, Bk.new _ _ _, rfl⟩
  case body =>
    rintro l pre x a' W ⟨v, hB, hL, hk⟩ ⟨bx, hbx, hX, rfl⟩ hlen
    obtain ⟨A, cp, rfl, _, _⟩ := hL.look
    have c1 : W.cell? ⟨w.heap.size, 0, none⟩ = some (.slice A pre.length cp) := hB.cell 0
    have cx0 : W.cell? ⟨bx, 0, none⟩ = some (kN x.1) := hX.cell 0
    have cx1 : W.cell? ⟨bx, 1, none⟩ = some (vN x.2) := hX.cell 1
    have HX := Lib.hid hX
    have HB := Lib.hid hB
    have HL := Lib.hid hL
    have HK := Lib.hid hk
    have hks := hk.size
    clear hB hL hk hX
    obtain ⟨pk, pv⟩ := x
    unfold kN at cx0
    unfold vN at cx1
    unfold kN vN
    obtain ⟨i2, hi2, hz2, hs2, hb2⟩ := info_parts' pairN_info
    gi_wp2_with (gi_at_builtin; refine wpListIn_append_lst _ rfl (.tmp 7) (.tmp 9) _ rfl w.heap.size 138 i2 _ 2 16 Tryz.underlying125 hi2 hz2 hs2 hb2 rfl _ pre.length (cellsN pre) rfl (HL.out.alloc _) ⟨W.heap.size, 0, none⟩ 1 1 [.int .i64 pk, .int .u64 pv] rfl rfl (World.news_of_block (heap_alloc_new _ _)) ?c2 ?c3 ?c4 ?c5 ?c6)
    case c2 => simp [Value.oneCell']
    case c3 => unfold maxLen; omega
    case c4 => omega
    case c5 => first | omega | (simp; omega)
    case c6 =>
      intro v2 w7 hown hgrow hat
      have hne : ∀ j, (Value.slice A pre.length cp).ownBlock = some j → j ≠ w.heap.size := HL.out.ne_bk HB.out (by decide)
      have hlt := HL.out.lt
      have hfr : Fr (Value.slice A pre.length cp).ownBlock.toList W w7 := ((Fr.refl _ _).alloc _).grown hgrow (fun j hj => .inl (by simp [hj]))
      have HB7 := Lib.hid (HB.out.fr hfr (fun hx => hne _ (by simpa using hx) rfl))
      have HL7 : Hid (Lst w7 w.heap.size 138 2 v2 (pre.length + 1) (cellsN pre ++ [kN pk, vN pv])) := hown
      have HK7 : Hid (Kb w.heap.size [] W w7) := hfr.kb (fun y hy => .inr (hlt y (by simpa using hy)).1)
      have HG7 : Hid (KeepsFrom w1.heap.size W w7) := hfr.keeps (fun y hy => by
        obtain ⟨cs, hcs⟩ := HL.out.bk (k := y) (by simpa using hy)
        exact ⟨_, cs, hcs⟩)
      have cz := HB7.out.cell 0
      have fz := HB7.out.free 0
      obtain ⟨A2, cap2, rfl, _, _⟩ := HL7.out.look
      clear hown hgrow hat hfr hne hlt c1
      gi_wp2
      have hne2 : ∀ j, (Value.slice A2 (pre.length + 1) cap2).ownBlock = some j → j ≠ w.heap.size := HL7.out.ne_bk HB7.out (by decide)
      have hset : Fr [w.heap.size] w7 (w7.setCell ⟨w.heap.size, 0, none⟩ (.slice A2 (pre.length + 1) cap2)) := (Fr.refl _ _).setCell (by simp) _
      have hks2 : Kb w.heap.size [] w7 (w7.setCell ⟨w.heap.size, 0, none⟩ (.slice A2 (pre.length + 1) cap2)) := hset.kb (by simp)
      refine ⟨?_, HK7.out.trans hks2, _, HB7.out.put 0 _, ?_, HK.out.trans (HK7.out.trans hks2)⟩
      · rw [← hsz]
        exact HG7.out.trans (hset.keeps (fun y hy => by cases List.mem_singleton.1 hy; exact ⟨_, _, HB7.out⟩))
      · have := HL7.out.far (p := ⟨w.heap.size, 0, none⟩) hne2 (.slice A2 (pre.length + 1) cap2)
        unfold cellsN at this ⊢
        rw [cells2_append, List.length_append]
        exact this
  case done =>
    rintro D xs W hD rfl ⟨v, hB, hL, hk⟩ hK
    have c1 : W.cell? ⟨w.heap.size, 0, none⟩ = some v := hB.cell 0
    gi_wp2
    refine ⟨by simp, .inl ⟨_, _, rfl, run_takeDeferred hK, ?_⟩⟩
    have hg := grownBy_putObj' W D (.deferred none)
    have hnc : ∀ r, some D = some r → ∃ o : Obj, W.heap[r]? = some o ∧ o.isCells = false := fun r e => by cases e; exact ⟨_, hK, rfl⟩
    refine ⟨_, results_tmp rfl _ _ _, v, rfl, lst_kept hL hg hnc, ?_⟩
    exact (hk.trans (kb_of_grown hg (fun r e => by cases e; omega))).fr
end Go.Proofs.YtdjaalkbpdmdgaaGreat
