/-
  A list that lies in a block of its own, from some offset on: what is read, cut, stored and appended there.
-/
import Derived.Maps.AppendAt
import Derived.Laws.Rows
import Derived.RegionTactic
import Derived.Test.YtdcppdgnekhcgaaGreatDoorBase
namespace Go.Proofs.YtdcppdgnekhcgaaGreatDoor
open Go.RowKit

/-- The slice value v (n elements of e, size cells each) holds the cells xs, in an unfrozen block from base on (nil: nothing). -/
def Lst (w : World) (base : Nat) (e : TypeId) (size : Nat) (v : Value) (n : Nat) (xs : List Value) : Prop :=
  xs.length = n * size ∧
  ((v = .slice none 0 0 ∧ n = 0) ∨
   ∃ g off cap cur, v = .slice (some ⟨g, off, none⟩) n cap ∧ base ≤ g ∧ w.heap[g]? = some (.cells cur e (0, 0)) ∧ n ≤ cap ∧ cap ≤ maxLen ∧ off + cap * size ≤ cur.size ∧ (cur.toList.drop off).take (n * size) = xs)

section
variable {w w' : World} {base : Nat} {e : TypeId} {size n : Nat} {v : Value} {xs : List Value}

theorem Lst.nil (w : World) (base : Nat) (e : TypeId) (size : Nat) : Lst w base e size (.slice none 0 0) 0 [] := ⟨by simp, .inl ⟨rfl, rfl⟩⟩
theorem Lst.of_own (h : w.ownsRow base e size v n xs) : Lst w base e size v n xs := by
  refine ⟨h.1, ?_⟩
  rcases h.2 with h0 | ⟨g, cap, cur, rfl, hb, hg, hn, hc, hs, ht⟩
  · exact .inl h0
  · exact .inr ⟨g, 0, cap, cur, rfl, hb, hg, hn, hc, by omega, by simpa using ht⟩
theorem Lst.lt (h : Lst w base e size v n xs) : ∀ k, v.ownBlock = some k → base ≤ k ∧ k < w.heap.size := by
  intro k hk
  rcases h.2 with ⟨rfl, _⟩ | ⟨g, off, cap, cur, rfl, hb, hg, _⟩
  · simp [Value.ownBlock] at hk
  · simp [Value.ownBlock] at hk
    subst hk
    exact ⟨hb, (Array.getElem?_eq_some_iff.1 hg).1⟩
theorem Lst.bk (h : Lst w base e size v n xs) {k : Nat} (hk : v.ownBlock = some k) : ∃ cs, Bk w k e cs := by
  rcases h.2 with ⟨rfl, _⟩ | ⟨g, off, cap, cur, rfl, hb, hg, _⟩
  · simp [Value.ownBlock] at hk
  · simp [Value.ownBlock] at hk
    subst hk
    exact ⟨cur, hg⟩
theorem Lst.mono {b' : Nat} (h : Lst w base e size v n xs) (hb : b' ≤ base) : Lst w b' e size v n xs := by
  refine ⟨h.1, ?_⟩
  rcases h.2 with h0 | ⟨g, off, cap, cur, hv, hb', rest⟩
  · exact .inl h0
  · exact .inr ⟨g, off, cap, cur, hv, by omega, rest⟩
theorem Lst.fr {S : List Nat} (h : Lst w base e size v n xs) (hf : Fr S w w') (hg : ∀ k, v.ownBlock = some k → k ∉ S) : Lst w' base e size v n xs := by
  refine ⟨h.1, ?_⟩
  rcases h.2 with hn | ⟨g, off, cap, cur, rfl, hb, hgg, rest⟩
  · exact .inl hn
  · refine .inr ⟨g, off, cap, cur, rfl, hb, ?_, rest⟩
    rw [hf.block g (Array.getElem?_eq_some_iff.1 hgg).1 (hg g (by simp [Value.ownBlock]))]
    exact hgg
/-- What the value looks like where something is there. -/
theorem Lst.form (h : Lst w base e size v n xs) (hn : 0 < n) : ∃ g off cap, v = .slice (some ⟨g, off, none⟩) n cap ∧ base ≤ g ∧ g < w.heap.size ∧ n ≤ cap ∧ cap ≤ maxLen ∧ w.frozen? ⟨g, 0, none⟩ = false ∧
    (∀ i, w.frozen? ⟨g, i, none⟩ = false) ∧ ∀ j u, xs[j]? = some u → w.cell? ⟨g, off + j, none⟩ = some u := by
  rcases h.2 with ⟨_, h0⟩ | ⟨g, off, cap, cur, hv, hb, hg, hnc, hcm, hsz, ht⟩
  · omega
  · refine ⟨g, off, cap, hv, hb, (Array.getElem?_eq_some_iff.1 hg).1, hnc, hcm, frozen_of_row w g 0 cur e hg, fun i => frozen_of_row w g i cur e hg, fun j u hu => ?_⟩
    rw [cell_of_row w g (off + j) cur e (0, 0) hg]
    rw [← ht, List.getElem?_take] at hu
    split at hu
    · rw [List.getElem?_drop] at hu
      simpa using hu
    · cases hu
/-- What the value looks like, whatever is there. -/
theorem Lst.look (h : Lst w base e size v n xs) : ∃ A cap, v = .slice A n cap ∧ n ≤ cap ∧ cap ≤ maxLen := by
  rcases h.2 with ⟨rfl, rfl⟩ | ⟨g, off, cap, cur, hv, hb, hg, hnc, hcm, _⟩
  · exact ⟨none, 0, rfl, by omega, by omega⟩
  · exact ⟨_, cap, hv, hnc, hcm⟩
/-- Cut from the front, as the model cuts. -/
theorem Lst.cut {g off cap k : Nat} (h : Lst w base e size (.slice (some ⟨g, off, none⟩) n cap) n xs) (hk : k ≤ n) :
    Lst w base e size (.slice (some ⟨g, if cap = k then off else off + k * size, none⟩) (n - k) (cap - k)) (n - k) (xs.drop (k * size)) := by
  refine ⟨by rw [List.length_drop, h.1, Nat.sub_mul], ?_⟩
  rcases h.2 with ⟨hv, _⟩ | ⟨g', off', cap', cur, hv, hb, hg, hnc, hcm, hsz, ht⟩
  · cases hv
  · injection hv with hv1 hv2 hv3
    injection hv1 with hv1
    injection hv1 with e1 e2
    subst e1 e2 hv3
    refine .inr ⟨g, _, _, cur, rfl, hb, hg, by omega, by omega, ?_, ?_⟩
    · have hkc : k ≤ cap := by omega
      have e3 : k * size + (cap - k) * size = cap * size := by rw [← Nat.add_mul]; congr 1; omega
      split
      · rename_i hc; subst hc; simp only [Nat.sub_self, Nat.zero_mul] at e3 ⊢; omega
      · omega
    · by_cases hnk : n = k
      · subst hnk
        simp only [Nat.sub_self, Nat.zero_mul, List.take_zero]
        exact (List.drop_eq_nil_of_le (by rw [h.1]; exact Nat.le_refl _)).symm
      · rw [if_neg (by omega), ← ht, List.drop_take, List.drop_drop, Nat.sub_mul]
/-- Cut from the back. -/
theorem Lst.shut {g off cap k : Nat} (h : Lst w base e size (.slice (some ⟨g, off, none⟩) n cap) n xs) (hk : k ≤ n) :
    Lst w base e size (.slice (some ⟨g, off, none⟩) k cap) k (xs.take (k * size)) := by
  have hks : k * size ≤ n * size := Nat.mul_le_mul_right _ hk
  refine ⟨by rw [List.length_take, h.1]; omega, ?_⟩
  rcases h.2 with ⟨hv, _⟩ | ⟨g', off', cap', cur, hv, hb, hg, hnc, hcm, hsz, ht⟩
  · cases hv
  · injection hv with hv1 hv2 hv3
    injection hv1 with hv1
    injection hv1 with e1 e2
    subst e1 e2 hv3
    refine .inr ⟨g, off, cap, cur, rfl, hb, hg, by omega, by omega, hsz, ?_⟩
    rw [← ht, List.take_take]
    congr 1
    omega
/-- A cell stored anew. -/
theorem Lst.put {g off cap j : Nat} (h : Lst w base e size (.slice (some ⟨g, off, none⟩) n cap) n xs) (u : Value) :
    Lst (w.setCell ⟨g, off + j, none⟩ u) base e size (.slice (some ⟨g, off, none⟩) n cap) n (xs.set j u) := by
  refine ⟨by rw [List.length_set]; exact h.1, ?_⟩
  rcases h.2 with ⟨hv, _⟩ | ⟨g', off', cap', cur, hv, hb, hg, hnc, hcm, hsz, ht⟩
  · cases hv
  · injection hv with hv1 hv2 hv3
    injection hv1 with hv1
    injection hv1 with e1 e2
    subst e1 e2 hv3
    refine .inr ⟨g, off, cap, cur.setIfInBounds (off + j) u, rfl, hb, (show Bk (w.setCell ⟨g, off + j, none⟩ u) g e _ from Bk.put (show Bk w g e cur from hg) _ _), by omega, by omega, by simpa using hsz, ?_⟩
    rw [← ht]
    apply List.ext_getElem?
    intro i
    simp only [Array.toList_setIfInBounds, List.getElem?_take, List.getElem?_drop, List.getElem?_set]
    have hl : (List.drop off cur.toList).length = cur.size - off := by simp
    have hl2 : (List.take (n * size) (List.drop off cur.toList)).length = n * size := by
      rw [ht]; exact h.1
    by_cases hi : i < n * size
    · simp only [hi, if_true, hl2]
      have hmul : n * size ≤ cap * size := Nat.mul_le_mul_right _ hnc
      by_cases hj : j = i
      · subst hj
        rw [if_pos rfl, if_pos (by simp; omega), if_pos rfl, if_pos hi]
      · rw [if_neg (by omega), if_neg hj]
    · simp only [hi, if_false, hl2]
      by_cases hj : j = i
      · subst hj; rw [if_pos rfl, if_neg hi]
      · rw [if_neg hj]
theorem Lst.alloc (h : Lst w base e size v n xs) (o : Obj) : Lst (w.alloc o) base e size v n xs := h.fr ((Fr.refl [] _).alloc o) (by simp)
theorem Lst.drew (h : Lst w base e size v n xs) : Lst w.drew base e size v n xs := h
theorem Lst.drewN (h : Lst w base e size v n xs) (k : Nat) : Lst (w.drewN k) base e size v n xs := h
theorem Lst.ne_bk {g : Nat} {t : TypeId} {cs : Array Value} (h : Lst w base e size v n xs) (hb : Bk w g t cs) (hne : e ≠ t) : ∀ j, v.ownBlock = some j → j ≠ g := fun j hj he => by
  subst he
  obtain ⟨cs', hc⟩ := h.bk hj
  exact hc.ne hb hne rfl
theorem Lst.ne_lst {base' size' n' : Nat} {e' : TypeId} {v' : Value} {xs' : List Value} (h : Lst w base e size v n xs) (h' : Lst w base' e' size' v' n' xs') (hne : e ≠ e') : ∀ j, v.ownBlock = some j → j ∉ v'.ownBlock.toList := fun j hj hx => by
  obtain ⟨cs, hc⟩ := h.bk hj
  obtain ⟨cs', hc'⟩ := h'.bk (k := j) (by simpa using hx)
  exact hc.ne hc' hne rfl
theorem Lst.far {p : Addr} (h : Lst w base e size v n xs) (hne : ∀ j, v.ownBlock = some j → j ≠ p.block) (u : Value) : Lst (w.setCell p u) base e size v n xs :=
  h.fr ((Fr.refl [p.block] _).setCell (by simp) u) (fun j hj hx => hne j hj (by simpa using hx))
end

section
variable {P : Program} (w : World)

theorem run_append_lst (base : Nat) (t ty e : TypeId) (i : TypeInfo) (z : Value) (size bytes : Nat) (ht : P.underlying t = some (.slice e)) (hi : P.info? e = some i) (hz : i.zero = some z)
    (hsize : i.size = size) (hby : i.bytes = bytes) (hzs : z.cells.size = size)
    (v : Value) (n : Nat) (xs : List Value) (hown : Lst w base e size v n xs)
    (a : Addr) (m c : Nat) (news : List Value) (hl : news.length = m * size) (hnews : ∀ j u, news[j]? = some u → w.cell? (a.add j) = some u) (h1 : ∀ u ∈ news, u.oneCell' = true)
    (h63 : n + m ≤ maxLen) (hbytes : (n + m) * bytes ≤ 140737488355328) (hbase : base ≤ w.heap.size) :
    ∃ v' w', (Builtin.append_ #[t, t] ty #[v, .slice (some a) m c]).run P w = .ok v' w' ∧ Lst w' base e size v' (n + m) (xs ++ news) ∧ w.grownBy w' v.ownBlock ∧
      (v'.ownBlock = v.ownBlock ∨ v'.ownBlock = some w.heap.size) := by
  subst hsize
  subst hby
  have hsmall : n + m ≤ 9223372036854775807 := by simp only [maxLen] at h63; omega
  have hlen : (xs ++ news).length = (n + m) * i.size := by rw [List.length_append, hown.1, hl, Nat.add_mul]
  have grown : ∀ (old : Nat), old < n + m → ∀ (row : Option Nat),
      Lst (w.drew.alloc (.cells (xs.toArray ++ news.toArray ++ Builtin.zeroCells z.cells (grownCap w (n + m) old e - (n + m))) e)) base e i.size
        (.slice (some ⟨w.heap.size, 0, none⟩) (n + m) (grownCap w (n + m) old e)) (n + m) (xs ++ news) ∧
      w.grownBy (w.drew.alloc (.cells (xs.toArray ++ news.toArray ++ Builtin.zeroCells z.cells (grownCap w (n + m) old e - (n + m))) e)) row := by
    intro old ho row
    have hge := grownCap_ge w (n + m) old e
    have hcm : grownCap w (n + m) old e ≤ maxLen := grownCap_le_maxLen w (n + m) old e h63
    refine ⟨⟨hlen, .inr ⟨w.heap.size, 0, _, _, rfl, hbase, heap_alloc_new w.drew _, hge, hcm, ?_, ?_⟩⟩, ⟨rfl, rfl, rfl, by simp, fun k hk _ => Below.heap_alloc w.drew _ k hk⟩⟩
    · simp only [Array.size_append, List.size_toArray, size_zeroCells, hzs, hown.1, hl, ← Nat.add_mul, Nat.zero_add]
      apply Nat.mul_le_mul_right
      omega
    · simp only [Array.toList_append, List.append_assoc, List.drop_zero]
      rw [← List.append_assoc, ← hlen]
      exact List.take_left
  rcases hown.2 with ⟨rfl, rfl⟩ | ⟨g, off, cap, cur, rfl, hbg, hg, hnc, hcm, hcs, htake⟩
  · have hx : xs = [] := List.eq_nil_of_length_eq_zero (by simpa using hown.1)
    subst hx
    by_cases hm : m = 0
    · subst hm
      have hn : news = [] := List.eq_nil_of_length_eq_zero (by simpa using hl)
      subst hn
      refine ⟨.slice none 0 0, w, ?_, Lst.nil w base e i.size, ⟨rfl, rfl, rfl, Nat.le_refl _, fun _ _ _ => rfl⟩, Or.inl rfl⟩
      simp [Builtin.append_, run_underlying ht, sizeOf, typeInfo, hi, Builtin.lenOf, Builtin.firstCells, loadCells, loadCellsFrom]
    · have hr := run_append_nil (P := P) w t ty e i z ht hi hz a m c news hl hnews (by omega) (by omega) (by have hb := hbytes; simp only [Nat.zero_add] at hb; omega)
      have hgr := grown 0 (by omega) (Value.ownBlock (.slice none 0 0))
      simp only [Nat.zero_add, List.nil_append, Array.empty_append] at hgr ⊢
      exact ⟨_, _, hr, hgr.1, hgr.2, Or.inr rfl⟩
  · by_cases hroom : n + m ≤ cap
    · have hmul : (n + m) * i.size ≤ cap * i.size := Nat.mul_le_mul_right _ hroom
      have hfit : off + n * i.size + 0 + news.length ≤ cur.size := by
        rw [hl]
        rw [Nat.add_mul] at hmul
        omega
      have hst := run_storeCells_at P g (off + n * i.size) e news 0 cur w hg hfit h1
      simp only [Nat.add_zero] at hst
      have hf := run_firstCells_some (P := P) w i.size m a m c news hl hnews
      have hadd : (⟨g, off, none⟩ : Addr).add (n * i.size) = ⟨g, off + n * i.size, none⟩ := by unfold Addr.add; split <;> simp_all
      have hr : (Builtin.append_ #[t, t] ty #[.slice (some ⟨g, off, none⟩) n cap, .slice (some a) m c]).run P w =
          .ok (.slice (some ⟨g, off, none⟩) (n + m) cap) (w.setRow g (cur.toList.take (off + n * i.size) ++ news ++ cur.toList.drop (off + n * i.size + news.length)).toArray) := by
        simp [Builtin.append_, run_underlying ht, sizeOf, typeInfo, hi, Builtin.lenOf, hroom, hf, hadd, hst]
      refine ⟨_, _, hr, ⟨hlen, .inr ⟨g, off, cap, _, rfl, hbg, setRow_heap w g cur _ e _ hg, hroom, hcm, ?_, ?_⟩⟩, ⟨rfl, rfl, rfl, by simp, fun k _ hk => setRow_other w g k _ (fun e => hk (by simp [Value.ownBlock, e]))⟩, Or.inl rfl⟩
      · simp only [List.size_toArray, List.length_append, List.length_take, List.length_drop, Array.length_toList]
        omega
      · have htl : List.take (off + n * i.size) cur.toList = List.take off cur.toList ++ xs := by
          rw [List.take_add, htake]
        have hlo : (List.take off cur.toList).length = off := by
          rw [List.length_take, Array.length_toList]; omega
        rw [htl]
        simp only [List.append_assoc]
        have e1 : List.drop off (List.take off cur.toList ++ (xs ++ (news ++ List.drop (off + n * i.size + news.length) cur.toList))) = xs ++ (news ++ List.drop (off + n * i.size + news.length) cur.toList) := List.drop_left' hlo
        rw [e1, ← List.append_assoc, ← hlen]
        exact List.take_left
    · have holds : ∀ j u, xs[j]? = some u → w.cell? ((⟨g, off, none⟩ : Addr).add j) = some u := by
        intro j u hu
        have hadd : (⟨g, off, none⟩ : Addr).add j = ⟨g, off + j, none⟩ := by unfold Addr.add; split <;> simp_all
        rw [hadd, cell_of_row w g (off + j) cur e (0, 0) hg]
        rw [← htake, List.getElem?_take] at hu
        split at hu
        · rw [List.getElem?_drop] at hu
          simpa using hu
        · cases hu
      have hr := run_append_grow (P := P) w t ty e i z ht hi hz ⟨g, off, none⟩ n cap xs hown.1 holds a m c news hl hnews (by omega) (by omega) (growslice_fits (by omega) hbytes)
      have hgr := grown cap (by omega) (Value.ownBlock (.slice (some ⟨g, off, none⟩) n cap))
      exact ⟨_, _, hr, hgr.1, hgr.2, Or.inr rfl⟩

theorem wp_append_lst {o : Oper} {a : Act} {K : Act → World → Prop} {Q : Exit → Act → World → Prop} (s x : Operand) (t : TypeId)
    (ho : o.op = .call { callee := .builtin .append, args := #[s, x], argTypes := #[t, t] })
    (base : Nat) (e : TypeId) (i : TypeInfo) (z : Value) (size bytes : Nat) (ht : P.underlying t = some (.slice e)) (hi : P.info? e = some i) (hz : i.zero = some z)
    (hsize : i.size = size) (hby : i.bytes = bytes) (hzs : z.cells.size = size)
    (v : Value) (n : Nat) (xs : List Value) (hs : a.eval s = v) (hown : Lst w base e size v n xs)
    (ad : Addr) (m c : Nat) (news : List Value) (hx : a.eval x = .slice (some ad) m c) (hl : news.length = m * size) (hnews : ∀ j u, news[j]? = some u → w.cell? (ad.add j) = some u) (h1 : ∀ u ∈ news, u.oneCell' = true)
    (h63 : n + m ≤ maxLen) (hbytes : (n + m) * bytes ≤ 140737488355328) (hbase : base ≤ w.heap.size)
    (h : ∀ v' w', Lst w' base e size v' (n + m) (xs ++ news) → w.grownBy w' v.ownBlock → (v'.ownBlock = v.ownBlock ∨ v'.ownBlock = some w.heap.size) → K (a.put o.dst v') w') : o.wp P a w K Q := by
  obtain ⟨v', w', hrun, h2, h3, h4⟩ := run_append_lst (P := P) w base t o.type e i z size bytes ht hi hz hsize hby hzs v n xs hown ad m c news hl hnews h1 h63 hbytes hbase
  unfold Oper.wp execOp
  simp only [ho, resolve, invoke, builtin, Sem.run_bind, Sem.run_pure, Result.andThen_ok, List.map_toArray, List.map_cons, List.map_nil, hs, hx, hrun]
  exact h v' w' h2 h3 h4

theorem wpList_append_lst {ops : Array Oper} {rest : List Oper} {o : Oper} {a : Act} {Q : Exit → Act → World → Prop} (hgd : o.guard = none) (s x : Operand) (t : TypeId)
    (ho : o.op = .call { callee := .builtin .append, args := #[s, x], argTypes := #[t, t] })
    (base : Nat) (e : TypeId) (i : TypeInfo) (z : Value) (size bytes : Nat) (ht : P.underlying t = some (.slice e)) (hi : P.info? e = some i) (hz : i.zero = some z)
    (hsize : i.size = size) (hby : i.bytes = bytes) (hzs : z.cells.size = size)
    (v : Value) (n : Nat) (xs : List Value) (hs : a.eval s = v) (hown : Lst w base e size v n xs)
    (ad : Addr) (m c : Nat) (news : List Value) (hx : a.eval x = .slice (some ad) m c) (hl : news.length = m * size) (hnews : ∀ j u, news[j]? = some u → w.cell? (ad.add j) = some u) (h1 : ∀ u ∈ news, u.oneCell' = true)
    (h63 : n + m ≤ maxLen) (hbytes : (n + m) * bytes ≤ 140737488355328) (hbase : base ≤ w.heap.size)
    (h : ∀ v' w', Lst w' base e size v' (n + m) (xs ++ news) → w.grownBy w' v.ownBlock → (v'.ownBlock = v.ownBlock ∨ v'.ownBlock = some w.heap.size) → wpList P ops Q rest (a.put o.dst v') w') : wpList P ops Q (o :: rest) a w :=
  wpList_plain hgd fun _ hK => wp_append_lst w s x t ho base e i z size bytes ht hi hz hsize hby hzs v n xs hs hown ad m c news hx hl hnews h1 h63 hbytes hbase fun v' w' h2 h3 h4 => hK _ _ (h v' w' h2 h3 h4)

theorem step_append_lst {ops : Array Oper} {o : Oper} {a : Act} {K : Act → World → Prop} {Q : Exit → Act → World → Prop} {E : Prop} (hgd : o.guard = none) (s x : Operand) (t : TypeId)
    (ho : o.op = .call { callee := .builtin .append, args := #[s, x], argTypes := #[t, t] })
    (base : Nat) (e : TypeId) (i : TypeInfo) (z : Value) (size bytes : Nat) (ht : P.underlying t = some (.slice e)) (hi : P.info? e = some i) (hz : i.zero = some z)
    (hsize : i.size = size) (hby : i.bytes = bytes) (hzs : z.cells.size = size)
    (v : Value) (n : Nat) (xs : List Value) (hs : a.eval s = v) (hown : Lst w base e size v n xs)
    (ad : Addr) (m c : Nat) (news : List Value) (hx : a.eval x = .slice (some ad) m c) (hl : news.length = m * size) (hnews : ∀ j u, news[j]? = some u → w.cell? (ad.add j) = some u) (h1 : ∀ u ∈ news, u.oneCell' = true)
    (h63 : n + m ≤ maxLen) (hbytes : (n + m) * bytes ≤ 140737488355328) (hbase : base ≤ w.heap.size)
    (h : ∀ v' w', Lst w' base e size v' (n + m) (xs ++ news) → w.grownBy w' v.ownBlock → (v'.ownBlock = v.ownBlock ∨ v'.ownBlock = some w.heap.size) → K (a.put o.dst v') w') :
    if Region.wanted o (yielded ops a.tmps) = true then Oper.wp P o a w K Q else E := by
  have hw : Region.wanted o (yielded ops a.tmps) = true := by simp [Region.wanted, hgd]
  rw [if_pos hw]
  exact wp_append_lst w s x t ho base e i z size bytes ht hi hz hsize hby hzs v n xs hs hown ad m c news hx hl hnews h1 h63 hbytes hbase h
end
end Go.Proofs.YtdcppdgnekhcgaaGreatDoor
