/-
  Bag: gathered.
-/
import Derived.Test.YtdjaalkbpdmdgaaGreatBg9
import Derived.OwnWalkIn
namespace Go.Proofs.YtdjaalkbpdmdgaaGreat
open Go.RowKit Go.Shelf
set_option linter.unusedVariables false
attribute [local go_sem] Oper.semAt_some

theorem wpListIn_append_lst {F : Fence} {n' : Nat} {P : Program} (w : World) {ops : Array Oper} {rest : List Oper} {o : Oper} {a : Act} {Q : Exit → Act → World → Prop} (hgd : o.guard = none) (s x : Operand) (t : TypeId)
    (ho : o.op = .call { callee := .builtin .append, args := #[s, x], argTypes := #[t, t] })
    (base : Nat) (e : TypeId) (i : TypeInfo) (z : Value) (size bytes : Nat) (ht : P.underlying t = some (.slice e)) (hi : P.info? e = some i) (hz : i.zero = some z)
    (hsize : i.size = size) (hby : i.bytes = bytes) (hzs : z.cells.size = size)
    (v : Value) (n : Nat) (xs : List Value) (hs : a.eval s = v) (hown : Lst w base e size v n xs)
    (ad : Addr) (m c : Nat) (news : List Value) (hx : a.eval x = .slice (some ad) m c) (hl : news.length = m * size) (hnews : ∀ j u, news[j]? = some u → w.cell? (ad.add j) = some u) (h1 : ∀ u ∈ news, u.oneCell' = true)
    (h63 : n + m ≤ maxLen) (hbytes : (n + m) * bytes ≤ 140737488355328) (hbase : base ≤ w.heap.size)
    (h : ∀ v' w', Lst w' base e size v' (n + m) (xs ++ news) → w.grownBy w' v.ownBlock → (v'.ownBlock = v.ownBlock ∨ v'.ownBlock = some w.heap.size) → wpListIn F n' P ops Q rest (a.put o.dst v') w') : wpListIn F n' P ops Q (o :: rest) a w := by
  refine wpListIn_plain hgd fun K hK => ?_
  obtain ⟨v', w', hr, h2, h3, h4⟩ := run_append_lst (P := P) w base t o.type e i z size bytes ht hi hz hsize hby hzs v n xs hown ad m c news hl hnews h1 h63 hbytes hbase
  unfold Oper.wpIn
  refine ⟨?_, ?_⟩
  · simp [Oper.about, ho, resolve, Target.leads, Sem.run_pure]
  · rw [Oper.semAt_plain F _ _ (by rw [ho]; intro c hc'; cases hc')]
    simp [execOp, ho, resolve, invoke, builtin, hs, hx, hr, Result.andThen]
    exact hK _ _ (h v' w' h2 h3 h4)

/-- What has been gathered so far lies in the list that the box holds. -/
def Gth {α : Type} (w : World) (bt et : TypeId) (size : Nat) (cells : List α → List Value) (pre : List α) (W : World) : Prop :=
  ∃ v, Bk W w.heap.size bt #[v] ∧ Lst W w.heap.size et size v pre.length (cells pre) ∧ Kb w.heap.size [] w W
theorem Gth.own {α : Type} (w : World) (bt et : TypeId) (size : Nat) (cells : List α → List Value) (B : Nat) (hB : w.heap.size ≤ B) : OwnFrom B (Gth w bt et size cells) := by
  rintro pre A W row ⟨v, h1, h2, h3⟩ hg hr
  exact ⟨v, bk_kept h1 hg (fun r e => (hr r e).2), lst_kept h2 hg (fun r e => (hr r e).2), h3.trans (kb_of_grown hg (fun r e => by have := (hr r e).1; omega))⟩

set_option maxRecDepth 100000 in
set_option maxHeartbeats 1600000 in
theorem gatherI (gf : Nat) (fi : Array Value) (L : List Int) (w : World)
    (eg : ∀ args w, (callFunc gf args).run Tryz.prog w = .ok (.enter gf args) w)
    (hH : ∀ z, Fr [] w z → Hands Fence.wide 5 Tryz.prog gf fi (fun x : Int => #[.int .i64 x]) (Kb w.heap.size []) (fun xs => xs = L) 1000001 z) :
    Calls Tryz.prog 81 #[.func (.func gf) fi #[]] w (fun e w' => ∃ v, e = .returned v ∧ Lst w' w.heap.size 3 1 v L.length (iV L) ∧ Fr [] w w') := by
  rw [← callsIn_wide (n := 6)]
  refine callsIn_of_wp_marks Tryz.func81 rfl trivial ?_ rfl
  simp only [Tryz.ntmps81, List.size_toArray, List.length_cons, List.length_nil, Nat.reduceAdd, Nat.reduceSub, Array.replicate_succ, Array.replicate_zero, List.push_toArray, List.append_toArray, List.nil_append, List.cons_append]
  have HH := Lib.hid hH
  have HE := Lib.hid eg
  clear hH eg
  gi_wp2
  obtain ⟨w1, hw1⟩ : ∃ w1, w1 = w.alloc (.cells #[.slice none 0 0] 68) := ⟨_, rfl⟩
  have hf1 : Fr [] w w1 := by rw [hw1]; exact (Fr.refl _ _).alloc _
  have hsz : w1.heap.size = w.heap.size + 1 := by rw [hw1]; simp
  have H0 : Hid (Gth w 68 3 1 iV [] w1) := ⟨_, by rw [hw1]; exact Bk.new _ _ _, Lst.nil _ _ _ _, hf1.kb (by simp)⟩
  have HF1 := Lib.hid hf1
  rw [← hw1]
  clear hw1 hf1
  refine wpIn_range_method rfl (by omega) (gf := gf) (fi := fi) rfl trivial HE.out (HH.out w1 HF1.out)
    (fun h k => h.trans k) (fun W l o o' hl h _ => kb_of_grown (grownBy_putObj' W l o') (fun r e => by cases e; omega)) (fun _ => rfl)
    (Gth w 68 3 1 iV) (Gth.own _ _ _ _ _ _ (by omega)) H0.out
    (fun x a' _ => a' = { tmps := #[.func (.func gf) fi #[], undef, .slice none 0 0, .pointer (some ⟨w.heap.size, 0, none⟩), .int .i64 x, .func (.func gf) fi #[], .int .i64 x, undef, undef, undef, undef, undef], defers := [] })
    (fun x a' s A B row hs hg hr => hs) ?assign ?body ?done
  case assign =>
    intro l pre x W K hI hK
    gi_wp2
    exact hK _ _ (KeepsFrom.refl _ _) (Kb.refl _ _ _) hI rfl
  case body =>
    rintro l pre x a' W ⟨v, hB, hL, hk⟩ rfl hlen
    obtain ⟨A, cp, rfl, _, _⟩ := hL.look
    have c1 : W.cell? ⟨w.heap.size, 0, none⟩ = some (.slice A pre.length cp) := hB.cell 0
    have HB := Lib.hid hB
    have HL := Lib.hid hL
    have HK := Lib.hid hk
    have hks := hk.size
    clear hB hL hk
    obtain ⟨i2, hi2, hz2, hs2, hb2⟩ := info_parts' int_info
    gi_wp2_with (gi_at_builtin; refine wpListIn_append_lst _ rfl (.tmp 7) (.tmp 9) _ rfl w.heap.size 3 i2 _ 1 8 Tryz.underlying68 hi2 hz2 hs2 hb2 rfl _ pre.length (iV pre) rfl (HL.out.alloc _) ⟨W.heap.size, 0, none⟩ 1 1 [.int .i64 x] rfl rfl (World.news_of_block (heap_alloc_new _ _)) ?c2 ?c3 ?c4 ?c5 ?c6)
    case c2 => simp [Value.oneCell']
    case c3 => unfold maxLen; omega
    case c4 => omega
    case c5 => simp; omega
    case c6 =>
      intro v2 w7 hown hgrow hat
      have hne : ∀ j, (Value.slice A pre.length cp).ownBlock = some j → j ≠ w.heap.size := HL.out.ne_bk HB.out (by decide)
      have hlt := HL.out.lt
      have hfr : Fr (Value.slice A pre.length cp).ownBlock.toList W w7 := ((Fr.refl _ _).alloc _).grown hgrow (fun j hj => .inl (by simp [hj]))
      have HB7 := Lib.hid (HB.out.fr hfr (fun hx => hne _ (by simpa using hx) rfl))
      have HL7 : Hid (Lst w7 w.heap.size 3 1 v2 (pre.length + 1) (iV pre ++ [.int .i64 x])) := hown
      have HK7 : Hid (Kb w.heap.size [] W w7) := hfr.kb (fun y hy => .inr (hlt y (by simpa using hy)).1)
      have HG7 : Hid (KeepsFrom w1.heap.size W w7) := hfr.keeps (fun y hy => by
        obtain ⟨cs, hcs⟩ := HL.out.bk (k := y) (by simpa using hy)
        exact ⟨_, cs, hcs⟩)
      have cz := HB7.out.cell 0
      have fz := HB7.out.free 0
      obtain ⟨A2, cap2, rfl, _, _⟩ := HL7.out.look
      clear hown hgrow hat hfr hne hlt c1
      gi_wp2
      have hne2 : ∀ j, (Value.slice A2 (pre.length + 1) cap2).ownBlock = some j → j ≠ w.heap.size := HL7.out.ne_bk HB7.out (by decide)
      have hset : Fr [w.heap.size] w7 (w7.setCell ⟨w.heap.size, 0, none⟩ (.slice A2 (pre.length + 1) cap2)) := (Fr.refl _ _).setCell (by simp) _
      have hks2 : Kb w.heap.size [] w7 (w7.setCell ⟨w.heap.size, 0, none⟩ (.slice A2 (pre.length + 1) cap2)) := hset.kb (by simp)
      refine ⟨?_, HK7.out.trans hks2, _, HB7.out.put 0 _, ?_, HK.out.trans (HK7.out.trans hks2)⟩
      · rw [← hsz]
        exact HG7.out.trans (hset.keeps (fun y hy => by cases List.mem_singleton.1 hy; exact ⟨_, _, HB7.out⟩))
      · have := HL7.out.far (p := ⟨w.heap.size, 0, none⟩) hne2 (.slice A2 (pre.length + 1) cap2)
        unfold iV at this ⊢
        rw [List.map_append, List.length_append]
        exact this
  case done =>
    rintro D xs W hD rfl ⟨v, hB, hL, hk⟩ hK
    have c1 : W.cell? ⟨w.heap.size, 0, none⟩ = some v := hB.cell 0
    gi_wp2
    refine ⟨by simp, .inl ⟨_, _, rfl, run_takeDeferred hK, ?_⟩⟩
    have hg := grownBy_putObj' W D (.deferred none)
    have hnc : ∀ r, some D = some r → ∃ o : Obj, W.heap[r]? = some o ∧ o.isCells = false := fun r e => by cases e; exact ⟨_, hK, rfl⟩
    refine ⟨_, results_tmp rfl _ _ _, v, rfl, lst_kept hL hg hnc, ?_⟩
    exact (hk.trans (kb_of_grown hg (fun r e => by cases e; omega))).fr
end Go.Proofs.YtdjaalkbpdmdgaaGreat
