/-
  Marks: the function literal of the desk's runs.
-/
import Derived.Test.YtheiacfdbhjbmaaDoorMkRef4
import Derived.Test.YtheiacfdbhjbmaaDoorMkRun3
namespace Go.Proofs.YtheiacfdbhjbmaaDoor
open Go.RowKit Go.Shelf Mk
set_option linter.unusedVariables false

theorem bk_kept {W W' : World} {row : Option Nat} {b : Nat} {t : TypeId} {cs : Array Value} (h : Bk W b t cs) (hg : W.grownBy W' row) (hrow : ∀ r, row = some r → ∃ o : Obj, W.heap[r]? = some o ∧ o.isCells = false) : Bk W' b t cs :=
  (grownBy_keeps_cells hg hrow h rfl).trans h
theorem lst_kept {W W' : World} {row : Option Nat} {base : Nat} {e : TypeId} {size n : Nat} {v : Value} {xs : List Value} (h : Lst W base e size v n xs) (hg : W.grownBy W' row) (hrow : ∀ r, row = some r → ∃ o : Obj, W.heap[r]? = some o ∧ o.isCells = false) : Lst W' base e size v n xs := by
  refine ⟨h.1, ?_⟩
  rcases h.2 with hn | ⟨g, off, cap, cur, rfl, hb, hgg, rest⟩
  · exact .inl hn
  · exact .inr ⟨g, off, cap, cur, rfl, hb, bk_kept (show Bk W g e cur from hgg) hg hrow, rest⟩
theorem Fr.from {n₀ : Nat} {T : List Nat} {W W' : World} (h : Fr T W W') (hT : ∀ x ∈ T, x < n₀) : KeepsFrom n₀ W W' :=
  ⟨h.size, fun k o hB hk _ => (h.block k (Array.getElem?_eq_some_iff.1 hk).1 (fun hx => by have := hT k hx; omega)).trans hk⟩
theorem Kb.fr {T : List Nat} {w W' : World} (h : Kb w.heap.size T w W') : Fr T w W' := ⟨h.os, h.tape, h.output, h.size, fun k h1 h2 => h.block k h1 h1 h2⟩

/-- The literal's boxes. -/
structure LitC (W : World) (bo bk bw ba bn bs : Nat) (okb : Bool) (kv : Int) (want : Nat) (vA vN : Value) (stop : Int) (q : Nat) (lA lN : List Value) : Prop where
  o : Bk W bo 4 #[.bool okb]
  k : Bk W bk 3 #[.int .i64 kv]
  w : Bk W bw 3 #[.int .i64 want]
  a : Bk W ba 22 #[vA]
  n : Bk W bn 22 #[vN]
  s : Bk W bs 3 #[.int .i64 stop]
  A : Lst W 0 3 1 vA q lA
  N : Lst W 0 3 1 vN q lN
  n1 : bk ≠ bw
  n2 : bk ≠ bs
  n3 : ∀ j, vA.ownBlock = some j → j ≠ bk
  n4 : ∀ j, vN.ownBlock = some j → j ≠ bk
  n5 : bo ≠ bk
theorem LitC.kept {W W' : World} {row : Option Nat} {bo bk bw ba bn bs : Nat} {okb : Bool} {kv : Int} {want : Nat} {vA vN : Value} {stop : Int} {q : Nat} {lA lN : List Value} (h : LitC W bo bk bw ba bn bs okb kv want vA vN stop q lA lN)
    (hg : W.grownBy W' row) (hrow : ∀ r, row = some r → ∃ o : Obj, W.heap[r]? = some o ∧ o.isCells = false) : LitC W' bo bk bw ba bn bs okb kv want vA vN stop q lA lN :=
  ⟨bk_kept h.o hg hrow, bk_kept h.k hg hrow, bk_kept h.w hg hrow, bk_kept h.a hg hrow, bk_kept h.n hg hrow, bk_kept h.s hg hrow, lst_kept h.A hg hrow, lst_kept h.N hg hrow, h.n1, h.n2, h.n3, h.n4, h.n5⟩
theorem LitC.fr {W W' : World} {bo bk bw ba bn bs : Nat} {okb : Bool} {kv : Int} {want : Nat} {vA vN : Value} {stop : Int} {q : Nat} {lA lN : List Value} (h : LitC W bo bk bw ba bn bs okb kv want vA vN stop q lA lN)
    (hf : Fr [] W W') : LitC W' bo bk bw ba bn bs okb kv want vA vN stop q lA lN :=
  ⟨h.o.fr hf (by simp), h.k.fr hf (by simp), h.w.fr hf (by simp), h.a.fr hf (by simp), h.n.fr hf (by simp), h.s.fr hf (by simp), h.A.fr hf (by simp), h.N.fr hf (by simp), h.n1, h.n2, h.n3, h.n4, h.n5⟩
theorem LitC.put {W : World} {bo bk bw ba bn bs : Nat} {okb : Bool} {kv : Int} {want : Nat} {vA vN : Value} {stop : Int} {q : Nat} {lA lN : List Value} (h : LitC W bo bk bw ba bn bs okb kv want vA vN stop q lA lN) (ok' : Bool) (kv' : Int) :
    LitC ((W.setCell ⟨bo, 0, none⟩ (.bool ok')).setCell ⟨bk, 0, none⟩ (.int .i64 kv')) bo bk bw ba bn bs ok' kv' want vA vN stop q lA lN ∧ Fr [bo, bk] W ((W.setCell ⟨bo, 0, none⟩ (.bool ok')).setCell ⟨bk, 0, none⟩ (.int .i64 kv')) := by
  have e1 : bw ≠ bo := h.w.ne h.o (by decide)
  have e2 : ba ≠ bo := h.a.ne h.o (by decide)
  have e3 : bn ≠ bo := h.n.ne h.o (by decide)
  have e4 : bs ≠ bo := h.s.ne h.o (by decide)
  have e5 : ba ≠ bk := h.a.ne h.k (by decide)
  have e6 : bn ≠ bk := h.n.ne h.k (by decide)
  have a1 := h.A.ne_bk h.o (by decide)
  have a2 := h.N.ne_bk h.o (by decide)
  have hf : Fr [bo, bk] W ((W.setCell ⟨bo, 0, none⟩ (.bool ok')).setCell ⟨bk, 0, none⟩ (.int .i64 kv')) := ((Fr.refl _ _).setCell (by simp) _).setCell (by simp) _
  refine ⟨⟨?_, ?_, h.w.fr hf (by simp [e1, h.n1.symm]), h.a.fr hf (by simp [e2, e5]), h.n.fr hf (by simp [e3, e6]), h.s.fr hf (by simp [e4, h.n2.symm]), h.A.fr hf (fun j hj hx => ?_), h.N.fr hf (fun j hj hx => ?_), h.n1, h.n2, h.n3, h.n4, h.n5⟩, hf⟩
  · have := (h.o.put 0 (.bool ok')).far (p := ⟨bk, 0, none⟩) h.n5 (.int .i64 kv')
    simpa using this
  · have := (h.k.far (p := ⟨bo, 0, none⟩) h.n5.symm (.bool ok')).put 0 (.int .i64 kv')
    simpa using this
  · simp only [List.mem_cons, List.not_mem_nil, or_false] at hx
    rcases hx with e | e
    · exact a1 j hj e
    · exact h.n3 j hj e
  · simp only [List.mem_cons, List.not_mem_nil, or_false] at hx
    rcases hx with e | e
    · exact a2 j hj e
    · exact h.n4 j hj e

def LitOk (L : List (Nat × Nat)) (bo bk bw ba bn bs : Nat) (okb : Bool) (kv : Int) (want : Nat) (vA vN : Value) (stop : Int) (q : Nat) (lA lN : List Value) (x m : Nat) (W : World) (e : Ending) (W' : World) : Prop :=
  ∃ ok' kv', e = .returned (.bool (ok' && (kv' != stop))) ∧ LitC W' bo bk bw ba bn bs ok' kv' want vA vN stop q lA lN ∧ Fr [bo, bk] W W' ∧
    (ok' = true → 0 ≤ kv' ∧ kv' ≤ want) ∧ ∀ i : Nat, okb = true → kv = i → i < want → L[i]? = some (x, m) → ok' = true ∧ kv' = (i : Int) + 1

set_option maxRecDepth 100000 in
set_option maxHeartbeats 1600000 in
theorem lit_any (L : List (Nat × Nat)) (bo bk bw ba bn bs : Nat) (okb : Bool) (kv : Int) (want : Nat) (vA vN : Value) (stop : Int) (q : Nat) (lA lN : List Value) (x m : Nat) (W : World)
    (h : LitC W bo bk bw ba bn bs okb kv want vA vN stop q lA lN) (hk : okb = true → 0 ≤ kv ∧ kv ≤ want) (hq : want ≤ q) (hq2 : q ≤ 1048577) (hl : q = L.length) (hA : lA = L.map fun x => .int .i64 (x.1 : Nat)) (hN : lN = L.map fun x => .int .i64 (x.2 : Nat)) :
    Calls Tryd.prog 58 #[.int .i64 (x : Nat), .int .i64 (m : Nat), .pointer (some ⟨bo, 0, none⟩), .pointer (some ⟨bk, 0, none⟩), .pointer (some ⟨bw, 0, none⟩), .pointer (some ⟨ba, 0, none⟩), .pointer (some ⟨bn, 0, none⟩), .pointer (some ⟨bs, 0, none⟩)] W (LitOk L bo bk bw ba bn bs okb kv want vA vN stop q lA lN x m W) := by
  obtain ⟨Aa, capa, rfl, _, _⟩ := h.A.look
  obtain ⟨An, capn, rfl, _, _⟩ := h.N.look
  have c1 : W.cell? ⟨bo, 0, none⟩ = some (.bool okb) := h.o.cell 0
  have c2 : W.cell? ⟨bk, 0, none⟩ = some (.int .i64 kv) := h.k.cell 0
  have c3 : W.cell? ⟨bw, 0, none⟩ = some (.int .i64 want) := h.w.cell 0
  have c4 : W.cell? ⟨ba, 0, none⟩ = some (.slice Aa q capa) := h.a.cell 0
  have c5 : W.cell? ⟨bn, 0, none⟩ = some (.slice An q capn) := h.n.cell 0
  have c6 : W.cell? ⟨bs, 0, none⟩ = some (.int .i64 stop) := h.s.cell 0
  have f1 := h.o.free 0
  have f2 := h.k.free 0
  have n5 := h.n5
  have n1 := h.n1
  have n2 := h.n2
  have e1 : bw ≠ bo := h.w.ne h.o (by decide)
  have e2 : ba ≠ bo := h.a.ne h.o (by decide)
  have e3 : bn ≠ bo := h.n.ne h.o (by decide)
  have e4 : bs ≠ bo := h.s.ne h.o (by decide)
  have H := Lib.hid h
  have HK := Lib.hid hk
  have HL := Lib.hid (And.intro hl (And.intro hA hN))
  clear h hk hl hA hN
  cases okb with
  | false =>
    go_enter Tryd.func58, Tryd.ntmps58
    go_wp2_with fail
    go_ret
    obtain ⟨p1, p2⟩ := H.out.put false (wrap64 (kv + 1))
    exact ⟨false, _, by simp, p1, p2, by simp, fun i h => by cases h⟩
  | true =>
    obtain ⟨hk0, hk1⟩ := HK.out rfl
    obtain ⟨k, rfl⟩ := Int.eq_ofNat_of_zero_le hk0
    by_cases hlt : k < want
    · have hlt' : decide ((k : Int) < (want : Int)) = true := decide_eq_true (by omega)
      obtain ⟨y, hy⟩ : ∃ y, L[k]? = some y := ⟨_, List.getElem?_eq_getElem (by have := HL.out.1; omega)⟩
      obtain ⟨y1, y2⟩ := y
      have hy1 : lA[k]? = some (.int .i64 (y1 : Nat)) := by rw [HL.out.2.1, List.getElem?_map, hy]; rfl
      have hy2 : lN[k]? = some (.int .i64 (y2 : Nat)) := by rw [HL.out.2.2, List.getElem?_map, hy]; rfl
      obtain ⟨ga, offa, _, hv, _, _, _, _, _, _, hcell⟩ := H.out.A.form (by omega)
      injection hv with hv1 _ hv3
      subst hv1
      have cA := hcell k _ hy1
      clear hcell hv3
      obtain ⟨gn, offn, _, hv, _, _, _, _, _, _, hcell⟩ := H.out.N.form (by omega)
      injection hv with hv1 _ hv3
      subst hv1
      have cN := hcell k _ hy2
      clear hcell hv3 hy1 hy2
      have k0 : (0 : Int) ≤ (k : Int) := by omega
      have k1 : (k : Int) < (q : Int) := by omega
      have HY := Lib.hid hy
      clear hy
      by_cases d1 : y1 = x
      · by_cases d2 : y2 = m
        · subst d1
          subst d2
          have x1 : ((y1 : Int) == (y1 : Int)) = true := by simp
          have x2 : ((y2 : Int) == (y2 : Int)) = true := by simp
          go_enter Tryd.func58, Tryd.ntmps58
          go_wp2_with fail
          go_ret
          obtain ⟨p1, p2⟩ := H.out.put true ((k : Int) + 1)
          exact ⟨true, (k : Int) + 1, by simp, p1, p2, fun _ => by omega, fun i _ hi _ _ => ⟨rfl, by omega⟩⟩
        · have x1 : ((y1 : Int) == (x : Int)) = true := by simp [d1]
          have x2 : ((y2 : Int) == (m : Int)) = false := by simpa using (show ¬ (y2 : Int) = (m : Int) by omega)
          go_enter Tryd.func58, Tryd.ntmps58
          go_wp2_with fail
          go_ret
          obtain ⟨p1, p2⟩ := H.out.put false ((k : Int) + 1)
          refine ⟨false, (k : Int) + 1, by simp, p1, p2, by simp, fun i _ hi _ hL => ?_⟩
          obtain rfl : i = k := by omega
          rw [HY.out] at hL
          injection hL with hL
          injection hL with _ h2
          exact absurd h2 d2
      · have x1 : ((y1 : Int) == (x : Int)) = false := by simpa using (show ¬ (y1 : Int) = (x : Int) by omega)
        go_enter Tryd.func58, Tryd.ntmps58
        go_wp2_with fail
        go_ret
        obtain ⟨p1, p2⟩ := H.out.put false ((k : Int) + 1)
        refine ⟨false, (k : Int) + 1, by simp, p1, p2, by simp, fun i _ hi _ hL => ?_⟩
        obtain rfl : i = k := by omega
        rw [HY.out] at hL
        injection hL with hL
        injection hL with h1 _
        exact absurd h1 d1
    · have hlt' : decide ((k : Int) < (want : Int)) = false := decide_eq_false (by omega)
      go_enter Tryd.func58, Tryd.ntmps58
      go_wp2_with fail
      go_ret
      obtain ⟨p1, p2⟩ := H.out.put false ((k : Int) + 1)
      exact ⟨false, _, by simp, p1, p2, by simp, fun i _ hi h _ => by omega⟩
end Go.Proofs.YtheiacfdbhjbmaaDoor
