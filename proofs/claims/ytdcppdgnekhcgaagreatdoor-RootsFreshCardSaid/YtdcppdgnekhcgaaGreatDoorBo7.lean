/-
  The Book of middenkept: growInts.
-/
import Derived.Test.YtdcppdgnekhcgaaGreatDoorBo5
namespace Go.Proofs.YtdcppdgnekhcgaaGreatDoor
open Go.RowKit
set_option linter.unusedVariables false

section
variable {P : Program} (w : World)
theorem run_append_lstA (base : Nat) (t ty e : TypeId) (i : TypeInfo) (z : Value) (size bytes : Nat) (ht : P.underlying t = some (.slice e)) (hi : P.info? e = some i) (hz : i.zero = some z)
    (hsize : i.size = size) (hby : i.bytes = bytes) (hzs : z.cells.size = size)
    (v : Value) (n : Nat) (xs : List Value) (hown : Lst w base e size v n xs)
    (a : Addr) (m c : Nat) (news : List Value) (hl : news.length = m * size) (hnews : ∀ j u, news[j]? = some u → w.cell? (a.add j) = some u) (h1 : ∀ u ∈ news, u.oneCell' = true)
    (h63 : n + m ≤ maxLen) (hbytes : (n + m) * bytes ≤ 140737488355328) (hbase : base ≤ w.heap.size) :
    ∃ v' w', (Builtin.append_ #[t, t] ty #[v, .slice (some a) m c]).run P w = .ok v' w' ∧ Lst w' base e size v' (n + m) (xs ++ news) ∧
      ((∃ A c, v = .slice A n c ∧ v' = .slice A (n + m) c) ∧ w.grownBy w' v.ownBlock ∨ v'.ownBlock = some w.heap.size ∧ w.grownBy w' none) := by
  subst hsize
  subst hby
  have hsmall : n + m ≤ 9223372036854775807 := by simp only [maxLen] at h63; omega
  have hlen : (xs ++ news).length = (n + m) * i.size := by rw [List.length_append, hown.1, hl, Nat.add_mul]
  have grown : ∀ (old : Nat), old < n + m → ∀ (row : Option Nat),
      Lst (w.drew.alloc (.cells (xs.toArray ++ news.toArray ++ Builtin.zeroCells z.cells (grownCap w (n + m) old e - (n + m))) e)) base e i.size
        (.slice (some ⟨w.heap.size, 0, none⟩) (n + m) (grownCap w (n + m) old e)) (n + m) (xs ++ news) ∧
      w.grownBy (w.drew.alloc (.cells (xs.toArray ++ news.toArray ++ Builtin.zeroCells z.cells (grownCap w (n + m) old e - (n + m))) e)) row := by
    intro old ho row
    have hge := grownCap_ge w (n + m) old e
    have hcm : grownCap w (n + m) old e ≤ maxLen := grownCap_le_maxLen w (n + m) old e h63
    refine ⟨⟨hlen, .inr ⟨w.heap.size, 0, _, _, rfl, hbase, heap_alloc_new w.drew _, hge, hcm, ?_, ?_⟩⟩, ⟨rfl, rfl, rfl, by simp, fun k hk _ => Below.heap_alloc w.drew _ k hk⟩⟩
    · simp only [Array.size_append, List.size_toArray, size_zeroCells, hzs, hown.1, hl, ← Nat.add_mul, Nat.zero_add]
      apply Nat.mul_le_mul_right
      omega
    · simp only [Array.toList_append, List.append_assoc, List.drop_zero]
      rw [← List.append_assoc, ← hlen]
      exact List.take_left
  rcases hown.2 with ⟨rfl, rfl⟩ | ⟨g, off, cap, cur, rfl, hbg, hg, hnc, hcm, hcs, htake⟩
  · have hx : xs = [] := List.eq_nil_of_length_eq_zero (by simpa using hown.1)
    subst hx
    by_cases hm : m = 0
    · subst hm
      have hn : news = [] := List.eq_nil_of_length_eq_zero (by simpa using hl)
      subst hn
      refine ⟨.slice none 0 0, w, ?_, Lst.nil w base e i.size, Or.inl ⟨⟨_, _, rfl, rfl⟩, ⟨rfl, rfl, rfl, Nat.le_refl _, fun _ _ _ => rfl⟩⟩⟩
      simp [Builtin.append_, run_underlying ht, sizeOf, typeInfo, hi, Builtin.lenOf, Builtin.firstCells, loadCells, loadCellsFrom]
    · have hr := run_append_nil (P := P) w t ty e i z ht hi hz a m c news hl hnews (by omega) (by omega) (by have hb := hbytes; simp only [Nat.zero_add] at hb; omega)
      have hgr := grown 0 (by omega) none
      simp only [Nat.zero_add, List.nil_append, Array.empty_append] at hgr ⊢
      exact ⟨_, _, hr, hgr.1, Or.inr ⟨rfl, hgr.2⟩⟩
  · by_cases hroom : n + m ≤ cap
    · have hmul : (n + m) * i.size ≤ cap * i.size := Nat.mul_le_mul_right _ hroom
      have hfit : off + n * i.size + 0 + news.length ≤ cur.size := by
        rw [hl]
        rw [Nat.add_mul] at hmul
        omega
      have hst := run_storeCells_at P g (off + n * i.size) e news 0 cur w hg hfit h1
      simp only [Nat.add_zero] at hst
      have hf := run_firstCells_some (P := P) w i.size m a m c news hl hnews
      have hadd : (⟨g, off, none⟩ : Addr).add (n * i.size) = ⟨g, off + n * i.size, none⟩ := by unfold Addr.add; split <;> simp_all
      have hr : (Builtin.append_ #[t, t] ty #[.slice (some ⟨g, off, none⟩) n cap, .slice (some a) m c]).run P w =
          .ok (.slice (some ⟨g, off, none⟩) (n + m) cap) (w.setRow g (cur.toList.take (off + n * i.size) ++ news ++ cur.toList.drop (off + n * i.size + news.length)).toArray) := by
        simp [Builtin.append_, run_underlying ht, sizeOf, typeInfo, hi, Builtin.lenOf, hroom, hf, hadd, hst]
      refine ⟨_, _, hr, ⟨hlen, .inr ⟨g, off, cap, _, rfl, hbg, setRow_heap w g cur _ e _ hg, hroom, hcm, ?_, ?_⟩⟩, Or.inl ⟨⟨_, _, rfl, rfl⟩, ⟨rfl, rfl, rfl, by simp, fun k _ hk => setRow_other w g k _ (fun e => hk (by simp [Value.ownBlock, e]))⟩⟩⟩
      · simp only [List.size_toArray, List.length_append, List.length_take, List.length_drop, Array.length_toList]
        omega
      · have htl : List.take (off + n * i.size) cur.toList = List.take off cur.toList ++ xs := by
          rw [List.take_add, htake]
        have hlo : (List.take off cur.toList).length = off := by
          rw [List.length_take, Array.length_toList]; omega
        rw [htl]
        simp only [List.append_assoc]
        have e1 : List.drop off (List.take off cur.toList ++ (xs ++ (news ++ List.drop (off + n * i.size + news.length) cur.toList))) = xs ++ (news ++ List.drop (off + n * i.size + news.length) cur.toList) := List.drop_left' hlo
        rw [e1, ← List.append_assoc, ← hlen]
        exact List.take_left
    · have holds : ∀ j u, xs[j]? = some u → w.cell? ((⟨g, off, none⟩ : Addr).add j) = some u := by
        intro j u hu
        have hadd : (⟨g, off, none⟩ : Addr).add j = ⟨g, off + j, none⟩ := by unfold Addr.add; split <;> simp_all
        rw [hadd, cell_of_row w g (off + j) cur e (0, 0) hg]
        rw [← htake, List.getElem?_take] at hu
        split at hu
        · rw [List.getElem?_drop] at hu
          simpa using hu
        · cases hu
      have hr := run_append_grow (P := P) w t ty e i z ht hi hz ⟨g, off, none⟩ n cap xs hown.1 holds a m c news hl hnews (by omega) (by omega) (growslice_fits (by omega) hbytes)
      have hgr := grown cap (by omega) none
      exact ⟨_, _, hr, hgr.1, Or.inr ⟨rfl, hgr.2⟩⟩

theorem wp_append_lstA {o : Oper} {a : Act} {K : Act → World → Prop} {Q : Exit → Act → World → Prop} (s x : Operand) (t : TypeId)
    (ho : o.op = .call { callee := .builtin .append, args := #[s, x], argTypes := #[t, t] })
    (base : Nat) (e : TypeId) (i : TypeInfo) (z : Value) (size bytes : Nat) (ht : P.underlying t = some (.slice e)) (hi : P.info? e = some i) (hz : i.zero = some z)
    (hsize : i.size = size) (hby : i.bytes = bytes) (hzs : z.cells.size = size)
    (v : Value) (n : Nat) (xs : List Value) (hs : a.eval s = v) (hown : Lst w base e size v n xs)
    (ad : Addr) (m c : Nat) (news : List Value) (hx : a.eval x = .slice (some ad) m c) (hl : news.length = m * size) (hnews : ∀ j u, news[j]? = some u → w.cell? (ad.add j) = some u) (h1 : ∀ u ∈ news, u.oneCell' = true)
    (h63 : n + m ≤ maxLen) (hbytes : (n + m) * bytes ≤ 140737488355328) (hbase : base ≤ w.heap.size)
    (h : ∀ v' w', Lst w' base e size v' (n + m) (xs ++ news) → ((∃ A c, v = .slice A n c ∧ v' = .slice A (n + m) c) ∧ w.grownBy w' v.ownBlock ∨ v'.ownBlock = some w.heap.size ∧ w.grownBy w' none) → K (a.put o.dst v') w') : o.wp P a w K Q := by
  obtain ⟨v', w', hrun, h2, h3⟩ := run_append_lstA (P := P) w base t o.type e i z size bytes ht hi hz hsize hby hzs v n xs hown ad m c news hl hnews h1 h63 hbytes hbase
  unfold Oper.wp execOp
  simp only [ho, resolve, invoke, builtin, Sem.run_bind, Sem.run_pure, Result.andThen_ok, List.map_toArray, List.map_cons, List.map_nil, hs, hx, hrun]
  exact h v' w' h2 h3

theorem wpList_append_lstA {ops : Array Oper} {rest : List Oper} {o : Oper} {a : Act} {Q : Exit → Act → World → Prop} (hgd : o.guard = none) (s x : Operand) (t : TypeId)
    (ho : o.op = .call { callee := .builtin .append, args := #[s, x], argTypes := #[t, t] })
    (base : Nat) (e : TypeId) (i : TypeInfo) (z : Value) (size bytes : Nat) (ht : P.underlying t = some (.slice e)) (hi : P.info? e = some i) (hz : i.zero = some z)
    (hsize : i.size = size) (hby : i.bytes = bytes) (hzs : z.cells.size = size)
    (v : Value) (n : Nat) (xs : List Value) (hs : a.eval s = v) (hown : Lst w base e size v n xs)
    (ad : Addr) (m c : Nat) (news : List Value) (hx : a.eval x = .slice (some ad) m c) (hl : news.length = m * size) (hnews : ∀ j u, news[j]? = some u → w.cell? (ad.add j) = some u) (h1 : ∀ u ∈ news, u.oneCell' = true)
    (h63 : n + m ≤ maxLen) (hbytes : (n + m) * bytes ≤ 140737488355328) (hbase : base ≤ w.heap.size)
    (h : ∀ v' w', Lst w' base e size v' (n + m) (xs ++ news) → ((∃ A c, v = .slice A n c ∧ v' = .slice A (n + m) c) ∧ w.grownBy w' v.ownBlock ∨ v'.ownBlock = some w.heap.size ∧ w.grownBy w' none) → wpList P ops Q rest (a.put o.dst v') w') : wpList P ops Q (o :: rest) a w :=
  wpList_plain hgd fun _ hK => wp_append_lstA w s x t ho base e i z size bytes ht hi hz hsize hby hzs v n xs hs hown ad m c news hx hl hnews h1 h63 hbytes hbase fun v' w' h2 h3 => hK _ _ (h v' w' h2 h3)
end
/-- A list and what it became as it was laid on. -/
def thP (b0 : Nat) (v : Value) (l : List Int) (g : Value) (gl : List Int) : Th b0 :=
  ⟨v.ownBlock.toList ++ g.ownBlock.toList, fun w => RdV w v l ∧ (∀ k, v.ownBlock = some k → b0 ≤ k ∧ k < w.heap.size) ∧ Lst w b0 3 1 g gl.length (bV gl) ∧ l <+: gl ∧ ((∃ A c c', v = .slice A l.length c ∧ g = .slice A gl.length c') ∨ ∀ k, v.ownBlock = some k → g.ownBlock ≠ some k),
    fun h hf hS => ⟨h.1.fr hf (fun k hk => hS k (by simp [hk])), fun k hk => ⟨(h.2.1 k hk).1, Nat.lt_of_lt_of_le (h.2.1 k hk).2 hf.size⟩, h.2.2.1.fr hf (fun k hk => hS k (by simp [hk])), h.2.2.2⟩,
    fun h x hx => by
      rcases List.mem_append.1 hx with e | e
      · exact h.2.1 x (by simpa using e)
      · exact h.2.2.1.lt x (by simpa using e)⟩
section
variable {w0 w w' : World} {Us : List (Th w0.heap.size)}
theorem last_at {S : BS} {t : Th w0.heap.size} : (bkT w0.heap.size S ++ (Us ++ [t]))[11 + Us.length]? = some t := by
  rw [List.getElem?_append_right (by rw [bkT_len]; omega), bkT_len, Nat.add_sub_cancel_left, List.getElem?_append_right (Nat.le_refl _), Nat.sub_self]
  rfl
/-- The last thing turned. -/
theorem Sg.last {S : BS} {t t' : Th w0.heap.size} (h : Sg w0 (bkT w0.heap.size S ++ (Us ++ [t])) w) (hf : Fr t.F w w') (hP : t'.P w') (hn : ∀ x ∈ t'.F, x ∈ t.F ∨ w.heap.size ≤ x) : Sg w0 (bkT w0.heap.size S ++ (Us ++ [t'])) w' := by
  have h1 := h.set last_at hf hP hn
  have e : (bkT w0.heap.size S ++ (Us ++ [t])).set (11 + Us.length) t' = bkT w0.heap.size S ++ (Us ++ [t']) := by
    rw [List.set_append_right _ _ (by rw [bkT_len]; omega), bkT_len, Nat.add_sub_cancel_left, List.set_append_right _ _ (Nat.le_refl _), Nat.sub_self]
    rfl
  rw [e] at h1
  exact h1
/-- The first list that is written into, taken out. -/
theorem Sg.wout {S : BS} {v : Value} {l : List Int} {XR : List (Value × List Int)} (h : Sg w0 (bkT w0.heap.size S ++ Us) w) (hX : S.X = (v, l) :: XR) (hv : ∃ A c, v = .slice A l.length c) : Sg w0 (bkT w0.heap.size { S with X := XR } ++ (Us ++ [thP w0.heap.size v l v l])) w := by
  have hm := h.move (i := 10) (t := thWR w0.heap.size S.X) (s := thNil w0.heap.size) rfl trivial rfl
  have h1 : Sg w0 ((bkT w0.heap.size S ++ Us).set 10 (thNil w0.heap.size) ++ [thWR w0.heap.size S.X]) w := hm
  have hP := h.ok 10 (thWR w0.heap.size S.X) rfl
  have hp := hP.2
  rw [hX] at hp
  obtain ⟨p1, p2⟩ := List.pairwise_cons.1 hp
  have hl0 := hP.1 (v, l) (by rw [hX]; simp)
  have hlen : (bkT w0.heap.size S ++ Us).length = 11 + Us.length := by rw [List.length_append, bkT_len]
  refine ⟨fun k u hk => ?_, fun a b s u hab ha hb x hx hx' => ?_, h.fr⟩
  · by_cases e1 : k = 11 + Us.length
    · subst e1
      rw [last_at] at hk
      injection hk with hk
      subst hk
      exact ⟨hl0.rdv, fun k hk => hl0.lt k hk, hl0, List.prefix_refl _, .inl (by obtain ⟨A, c, e⟩ := hv; exact ⟨A, c, c, e, e⟩)⟩
    · by_cases e2 : k = 10
      · subst e2
        have hk : some (thWR w0.heap.size XR) = some u := hk
        injection hk with hk
        subst hk
        exact ⟨fun x hx => hP.1 x (by rw [hX]; exact List.mem_cons_of_mem _ hx), p2⟩
      · refine h1.ok k u ?_
        have hlt : k < 11 + Us.length := by
          have := (List.getElem?_eq_some_iff.1 hk).1
          simp [bkT_len] at this
          omega
        rw [List.getElem?_append_left (by rw [List.length_set]; omega), List.getElem?_set_ne (Ne.symm e2)]
        rw [← List.append_assoc, List.getElem?_append_left (by rw [List.length_append, bkT_len]; omega)] at hk
        have e3 : bkT w0.heap.size { S with X := XR } ++ Us = (bkT w0.heap.size S ++ Us).set 10 (thWR w0.heap.size XR) := rfl
        rw [e3, List.getElem?_set_ne (Ne.symm e2)] at hk
        exact hk
  · -- each thing's blocks lie within an old one's
    have old : ∀ (k : Nat) (u : Th w0.heap.size), (bkT w0.heap.size { S with X := XR } ++ (Us ++ [thP w0.heap.size v l v l]))[k]? = some u → (k = 11 + Us.length ∧ ∀ x ∈ u.F, v.ownBlock = some x) ∨ (k = 10 ∧ ∀ x ∈ u.F, ∃ y ∈ XR, y.1.ownBlock = some x) ∨ (k ≠ 10 ∧ k < 11 + Us.length ∧ (bkT w0.heap.size S ++ Us)[k]? = some u) := fun k u hk => by
      by_cases e1 : k = 11 + Us.length
      · subst e1
        rw [last_at] at hk
        injection hk with hk
        subst hk
        exact .inl ⟨rfl, fun x hx => by rcases List.mem_append.1 hx with e | e <;> simpa using e⟩
      · by_cases e2 : k = 10
        · subst e2
          have hk : some (thWR w0.heap.size XR) = some u := hk
          injection hk with hk
          subst hk
          exact .inr (.inl ⟨rfl, fun x hx => mem_xF.1 hx⟩)
        · have hlt : k < 11 + Us.length := by
            have := (List.getElem?_eq_some_iff.1 hk).1
            simp [bkT_len] at this
            omega
          rw [← List.append_assoc, List.getElem?_append_left (by rw [List.length_append, bkT_len]; omega)] at hk
          have e3 : bkT w0.heap.size { S with X := XR } ++ Us = (bkT w0.heap.size S ++ Us).set 10 (thWR w0.heap.size XR) := rfl
          rw [e3, List.getElem?_set_ne (Ne.symm e2)] at hk
          exact .inr (.inr ⟨e2, hlt, hk⟩)
    have inX : ∀ x, (v.ownBlock = some x ∨ ∃ y ∈ XR, y.1.ownBlock = some x) → x ∈ (thWR w0.heap.size S.X).F := fun x hx => by
      refine mem_xF.2 ?_
      rw [hX]
      rcases hx with e | ⟨y, hy, e⟩
      · exact ⟨(v, l), by simp, e⟩
      · exact ⟨y, List.mem_cons_of_mem _ hy, e⟩
    have far : ∀ (k : Nat) (u : Th w0.heap.size), k ≠ 10 → (bkT w0.heap.size S ++ Us)[k]? = some u → ∀ x ∈ u.F, x ∉ (thWR w0.heap.size S.X).F := fun k u hk hu x hx => h.ap k 10 u _ hk hu rfl x hx
    rcases old a s ha with ⟨a1, a2⟩ | ⟨a1, a2⟩ | ⟨a1, a3, a2⟩ <;> rcases old b u hb with ⟨b1, b2⟩ | ⟨b1, b2⟩ | ⟨b1, b3, b2⟩
    · omega
    · obtain ⟨y, hy, e⟩ := b2 x hx'
      exact p1 y hy x (a2 x hx) e
    · exact far b u b1 b2 x hx' (inX x (.inl (a2 x hx)))
    · obtain ⟨y, hy, e⟩ := a2 x hx
      exact p1 y hy x (b2 x hx') e
    · omega
    · exact far b u b1 b2 x hx' (inX x (.inr (a2 x hx)))
    · exact far a s a1 a2 x hx (inX x (.inl (b2 x hx')))
    · exact far a s a1 a2 x hx (inX x (.inr (b2 x hx')))
    · exact h.ap a b s u hab a2 b2 x hx hx'
/-- Both are only read from now on. -/
theorem Sg.ro2 {S : BS} {v g : Value} {l gl : List Int} (h : Sg w0 (bkT w0.heap.size S ++ (Us ++ [thP w0.heap.size v l g gl])) w) : Sg w0 (bkT w0.heap.size { S with Q := S.Q ++ [(v, l), (g, gl)], FQ := S.FQ ++ (v.ownBlock.toList ++ g.ownBlock.toList) } ++ Us) w := by
  have hP := h.ok 9 (thRO w0.heap.size S.Q S.FQ) rfl
  have hL := h.ok _ _ (last_at (t := thP w0.heap.size v l g gl))
  have h1 := h.join (i := 9) (j := 11 + Us.length) (t' := thRO w0.heap.size (S.Q ++ [(v, l), (g, gl)]) (S.FQ ++ (v.ownBlock.toList ++ g.ownBlock.toList))) rfl last_at (by omega) ?_ (fun x hx => by
    rcases List.mem_append.1 hx with e | e
    · exact .inl e
    · exact .inr e)
  · have h2 := h1.take (11 + Us.length)
    have e : (((bkT w0.heap.size S ++ (Us ++ [thP w0.heap.size v l g gl])).set 9 (thRO w0.heap.size (S.Q ++ [(v, l), (g, gl)]) (S.FQ ++ (v.ownBlock.toList ++ g.ownBlock.toList)))).set (11 + Us.length) (thNil w0.heap.size)).take (11 + Us.length) = bkT w0.heap.size { S with Q := S.Q ++ [(v, l), (g, gl)], FQ := S.FQ ++ (v.ownBlock.toList ++ g.ownBlock.toList) } ++ Us := by
      rw [List.take_set, List.set_eq_of_length_le (by rw [List.length_take]; omega)]
      show List.take (11 + Us.length) (bkT w0.heap.size { S with Q := S.Q ++ [(v, l), (g, gl)], FQ := S.FQ ++ (v.ownBlock.toList ++ g.ownBlock.toList) } ++ (Us ++ [thP w0.heap.size v l g gl])) = _
      rw [← List.append_assoc, List.take_left' (by rw [List.length_append, bkT_len])]
    rw [e] at h2
    exact h2
  · obtain ⟨p1, p2⟩ := hP
    refine ⟨fun q hq => ?_, fun x hx => ?_⟩
    · rcases List.mem_append.1 hq with e | e
      · obtain ⟨k1, k2⟩ := p1 q e
        exact ⟨k1, fun k hk => List.mem_append_left _ (k2 k hk)⟩
      · have e : q = (v, l) ∨ q = (g, gl) := by simpa using e
        rcases e with rfl | rfl
        · exact ⟨hL.1, fun k hk => List.mem_append_right _ (by have hk : v.ownBlock = some k := hk; simp [hk])⟩
        · exact ⟨hL.2.2.1.rdv, fun k hk => List.mem_append_right _ (by have hk : g.ownBlock = some k := hk; simp [hk])⟩
    · rcases List.mem_append.1 hx with e | e
      · exact p2 x e
      · rcases List.mem_append.1 e with e | e
        · exact hL.2.1 x (by simpa using e)
        · exact hL.2.2.1.lt x (by simpa using e)
/-- One number more laid on. -/
theorem Sg.more {S : BS} {v g g' : Value} {l gl : List Int} {z : Int} {n : Nat} {o : Obj} (h : Sg w0 (bkT w0.heap.size S ++ (Us ++ [thP w0.heap.size v l g gl])) w) (hn : gl.length = n) (hL : Lst w' w0.heap.size 3 1 g' (n + 1) (bV gl ++ [.int .i64 z])) (ho : (∃ A c, g = .slice A n c ∧ g' = .slice A (n + 1) c) ∧ (w.alloc o).grownBy w' g.ownBlock ∨ g'.ownBlock = some (w.alloc o).heap.size ∧ (w.alloc o).grownBy w' Option.none) :
    Sg w0 (bkT w0.heap.size S ++ (Us ++ [thP w0.heap.size v l g' (gl ++ [z])])) w' := by
  have hP := h.ok _ _ (last_at (t := thP w0.heap.size v l g gl))
  obtain ⟨q1, q2, q3, q4, q5⟩ := hP
  have hf : Fr g.ownBlock.toList w w' := by
    rcases ho with ⟨_, hg⟩ | ⟨_, hg⟩
    · exact ((Fr.refl _ _).alloc _).grown hg (fun k hk => .inl (by simp [hk]))
    · exact ((Fr.refl _ _).alloc _).grown hg (fun k hk => by cases hk)
  have hsz : w.heap.size < (w.alloc o).heap.size := by simp
  have hL2 : Lst w' w0.heap.size 3 1 g' (gl ++ [z]).length (bV (gl ++ [z])) := by
    rw [List.length_append, hn]
    have : bV (gl ++ [z]) = bV gl ++ [.int .i64 z] := by simp [bV]
    rw [this]
    exact hL
  have hpre : l <+: gl ++ [z] := q4.trans (List.prefix_append _ _)
  have hown : ∀ k, g'.ownBlock = some k → g.ownBlock = some k ∨ w.heap.size ≤ k := fun k hk => by
    rcases ho with ⟨⟨A, c, e1, e2⟩, _⟩ | ⟨e, _⟩
    · left
      rw [e1]
      rw [e2] at hk
      cases A with
      | none => simp [Value.ownBlock] at hk
      | some a => simpa [Value.ownBlock] using hk
    · rw [e] at hk
      injection hk with hk
      right
      omega
  refine h.last (hf.mono (fun x hx => .inl (List.mem_append_right _ hx))) ⟨?_, fun k hk => ⟨(q2 k hk).1, Nat.lt_of_lt_of_le (q2 k hk).2 hf.size⟩, hL2, hpre, ?_⟩ (fun x hx => ?_)
  · rcases q5 with ⟨A, c, c', e1, e2⟩ | e
    · rcases ho with ⟨⟨A2, c2, e3, e4⟩, _⟩ | ⟨e3, hg⟩
      · -- in place: the beginning of the longer list
        rw [e2] at e3
        injection e3 with e3 _ _
        subst e3
        have hr := hL2.rdv
        rw [e4] at hr
        obtain ⟨A3, c3, hv, hR⟩ := hr
        injection hv with hv _ _
        subst hv
        refine ⟨A, c, e1, ⟨by have := hR.1; have := hpre.length_le; omega, fun h0 => ?_⟩⟩
        obtain ⟨b, o, eA, hb, hc⟩ := hR.2 (by have := hpre.length_le; omega)
        refine ⟨b, o, eA, hb, fun i x hx => hc i x ?_⟩
        obtain ⟨r, hr⟩ := hpre
        rw [← hr, List.getElem?_append_left (List.getElem?_eq_some_iff.1 hx).1]
        exact hx
      · -- moved: the old block stays
        exact q1.fr (((Fr.refl [] w).alloc o).grown hg (fun k hk => by cases hk)) (by simp)
    · exact q1.fr hf (fun k hk hx => e k hk (by simpa using hx))
  · rcases q5 with ⟨A, c, c', e1, e2⟩ | e
    · rcases ho with ⟨⟨A2, c2, e3, e4⟩, _⟩ | ⟨e3, _⟩
      · rw [e2] at e3
        injection e3 with e3 _ _
        subst e3
        refine .inl ⟨A, c, c2, e1, ?_⟩
        rw [e4, List.length_append, hn]
        rfl
      · refine .inr (fun k hk hk2 => ?_)
        rw [e3] at hk2
        injection hk2 with hk2
        have := (q2 k hk).2
        omega
    · refine .inr (fun k hk hk2 => ?_)
      rcases hown k hk2 with e2 | e2
      · exact e k hk e2
      · have := (q2 k hk).2
        omega
  · rcases List.mem_append.1 hx with e | e
    · exact .inl (List.mem_append_left _ e)
    · exact (hown x (by simpa using e)).imp (fun k => List.mem_append_right _ (by simp [k])) id
end
end Go.Proofs.YtdcppdgnekhcgaaGreatDoor
