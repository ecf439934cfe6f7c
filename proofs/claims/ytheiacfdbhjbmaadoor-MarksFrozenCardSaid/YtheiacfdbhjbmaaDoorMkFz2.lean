/-
  Marks: the function literals of MarksFrozen that hold a list against the runs.
-/
import Derived.Test.YtheiacfdbhjbmaaDoorMkFz1
namespace Go.Proofs.YtheiacfdbhjbmaaDoor
open Go.RowKit Go.Shelf Mk
set_option linter.unusedVariables false

/-- The literals' boxes: what is well, the counter, the list. -/
structure LitF (W : World) (bg bk bl : Nat) (ok : Bool) (k : Int) (vl : Value) (q : Nat) (l : List Int) : Prop where
  o : Bk W bg 4 #[.bool ok]
  c : Bk W bk 3 #[.int .i64 k]
  b : Bk W bl 22 #[vl]
  L : Lst W 0 3 1 vl q (prV l)
  n1 : ∀ j, vl.ownBlock = some j → j ≠ bk
theorem LitF.kept {W W' : World} {row : Option Nat} {bg bk bl : Nat} {ok : Bool} {k : Int} {vl : Value} {q : Nat} {l : List Int} (h : LitF W bg bk bl ok k vl q l)
    (hg : W.grownBy W' row) (hrow : ∀ r, row = some r → ∃ o : Obj, W.heap[r]? = some o ∧ o.isCells = false) : LitF W' bg bk bl ok k vl q l :=
  ⟨bk_kept h.o hg hrow, bk_kept h.c hg hrow, bk_kept h.b hg hrow, lst_kept h.L hg hrow, h.n1⟩
theorem LitF.fr {W W' : World} {bg bk bl : Nat} {ok : Bool} {k : Int} {vl : Value} {q : Nat} {l : List Int} (h : LitF W bg bk bl ok k vl q l) (hf : Fr [] W W') : LitF W' bg bk bl ok k vl q l :=
  ⟨h.o.fr hf (by simp), h.c.fr hf (by simp), h.b.fr hf (by simp), h.L.fr hf (by simp), h.n1⟩
theorem LitF.put {W : World} {bg bk bl : Nat} {ok : Bool} {k : Int} {vl : Value} {q : Nat} {l : List Int} (h : LitF W bg bk bl ok k vl q l) (ok' : Bool) (k' : Int) :
    LitF ((W.setCell ⟨bg, 0, none⟩ (.bool ok')).setCell ⟨bk, 0, none⟩ (.int .i64 k')) bg bk bl ok' k' vl q l ∧ Fr [bg, bk] W ((W.setCell ⟨bg, 0, none⟩ (.bool ok')).setCell ⟨bk, 0, none⟩ (.int .i64 k')) := by
  have e1 : bg ≠ bk := h.o.ne h.c (by decide)
  have e2 : bl ≠ bg := h.b.ne h.o (by decide)
  have e3 : bl ≠ bk := h.b.ne h.c (by decide)
  have a1 := h.L.ne_bk h.o (by decide)
  have hf : Fr [bg, bk] W ((W.setCell ⟨bg, 0, none⟩ (.bool ok')).setCell ⟨bk, 0, none⟩ (.int .i64 k')) := ((Fr.refl _ _).setCell (by simp) _).setCell (by simp) _
  refine ⟨⟨?_, ?_, h.b.fr hf (by simp [e2, e3]), h.L.fr hf (fun j hj hx => ?_), h.n1⟩, hf⟩
  · have := (h.o.put 0 (.bool ok')).far (p := ⟨bk, 0, none⟩) e1 (.int .i64 k')
    simpa using this
  · have := (h.c.far (p := ⟨bg, 0, none⟩) e1.symm (.bool ok')).put 0 (.int .i64 k')
    simpa using this
  · simp only [List.mem_cons, List.not_mem_nil, or_false] at hx
    rcases hx with e | e
    · exact a1 j hj e
    · exact h.n1 j hj e

def LitFOk (bg bk bl : Nat) (ok : Bool) (k : Nat) (vl : Value) (q : Nat) (l : List Int) (x n : Int) (W : World) (e : Ending) (W' : World) : Prop :=
  ∃ ok' : Bool, e = .returned (.bool ok') ∧ LitF W' bg bk bl ok' ((k : Int) + 2) vl q l ∧ Fr [bg, bk] W W' ∧ (ok = false → ok' = false) ∧
    (ok = true → l[k]? = some x → l[k + 1]? = some n → ok' = true)
def FV (bg bk bl : Nat) (ok0 : Bool) (vl : Value) (q : Nat) (l : List Int) (n₀ i : Nat) (W : World) : Prop := ∃ ok : Bool, (ok0 = false → ok = false) ∧ LitF W bg bk bl ok ((2 * i : Nat) : Int) vl q l
def FU (bg : Nat) (ok0 : Bool) (n₀ i : Nat) (W : World) : Prop := ok0 = true → Bk W bg 4 #[.bool true]

set_option maxRecDepth 100000 in
set_option maxHeartbeats 1600000 in
theorem fz27_any (bg bk bl : Nat) (ok : Bool) (k : Nat) (vl : Value) (q : Nat) (l : List Int) (x n : Int) (W : World) (h : LitF W bg bk bl ok (k : Int) vl q l) (hkl : k ≤ 200000) (hq : q ≤ 100000) :
    Calls Tryd.prog 27 #[.int .i64 x, .int .i64 n, .pointer (some ⟨bg, 0, none⟩), .pointer (some ⟨bk, 0, none⟩), .pointer (some ⟨bl, 0, none⟩)] W (LitFOk bg bk bl ok k vl q l x n W) := by
  obtain ⟨Aa, capa, rfl, _, _⟩ := h.L.look
  have hll : l.length = q := by have := h.L.1; unfold prV at this; simpa using this
  have c1 : W.cell? ⟨bg, 0, none⟩ = some (.bool ok) := h.o.cell 0
  have c2 : W.cell? ⟨bk, 0, none⟩ = some (.int .i64 k) := h.c.cell 0
  have c3 : W.cell? ⟨bl, 0, none⟩ = some (.slice Aa q capa) := h.b.cell 0
  have f1 := h.o.free 0
  have f2 := h.c.free 0
  have e1 : bg ≠ bk := h.o.ne h.c (by decide)
  have e2 : bl ≠ bg := h.b.ne h.o (by decide)
  have e3 : bl ≠ bk := h.b.ne h.c (by decide)
  have H := Lib.hid h
  have HLL := Lib.hid hll
  clear h hll
  cases ok with
  | false =>
    go_enter Tryd.func27, Tryd.ntmps27
    go_wp2_with fail
    go_ret
    obtain ⟨p1, p2⟩ := H.out.put false ((k : Int) + 2)
    exact ⟨false, rfl, p1, p2, fun _ => rfl, fun h => by cases h⟩
  | true =>
    by_cases hlt : k + 1 < q
    · have hlt' : decide ((k : Int) + 1 < (q : Int)) = true := decide_eq_true (by omega)
      obtain ⟨y1, hy1⟩ : ∃ y, l[k]? = some y := ⟨_, List.getElem?_eq_getElem (by have := HLL.out; omega)⟩
      obtain ⟨y2, hy2⟩ : ∃ y, l[k + 1]? = some y := ⟨_, List.getElem?_eq_getElem (by have := HLL.out; omega)⟩
      obtain ⟨ga, offa, _, hv, _, _, _, _, _, _, hcell⟩ := H.out.L.form (by omega)
      injection hv with hv1 _ hv3
      subst hv1
      have cA := hcell k _ (prV_at hy1)
      have cB := hcell (k + 1) _ (prV_at hy2)
      have k0 : (0 : Int) ≤ (k : Int) := by omega
      have k1 : (k : Int) < (q : Int) := by omega
      have k2 : (0 : Int) ≤ (k : Int) + 1 := by omega
      have k3 : (k : Int) + 1 < (q : Int) := by omega
      have k4 : IntKind.i64.wrap ((k : Int) + 1) = (k : Int) + 1 := IntWalk.i64_in _ (by omega)
      have k5 : ((k : Int) + 1).toNat = k + 1 := by omega
      have HY := Lib.hid (And.intro hy1 hy2)
      clear hcell hv3 hy1 hy2
      by_cases d1 : y1 = x
      · by_cases d2 : y2 = n
        · subst d1
          subst d2
          have x1 : (y1 == y1) = true := by simp
          have x2 : (y2 == y2) = true := by simp
          go_enter Tryd.func27, Tryd.ntmps27
          go_wp2_with fail
          go_ret
          obtain ⟨p1, p2⟩ := H.out.put true ((k : Int) + 2)
          exact ⟨true, rfl, p1, p2, (fun h => by cases h), fun _ _ _ => rfl⟩
        · have x1 : (y1 == x) = true := by simpa using d1
          have x2 : (y2 == n) = false := by simpa using d2
          go_enter Tryd.func27, Tryd.ntmps27
          go_wp2_with fail
          go_ret
          obtain ⟨p1, p2⟩ := H.out.put false ((k : Int) + 2)
          exact ⟨false, rfl, p1, p2, fun _ => rfl, fun _ _ h2 => absurd (Option.some.inj (HY.out.2.symm.trans h2)) d2⟩
      · have x1 : (y1 == x) = false := by simpa using d1
        go_enter Tryd.func27, Tryd.ntmps27
        go_wp2_with fail
        go_ret
        obtain ⟨p1, p2⟩ := H.out.put false ((k : Int) + 2)
        exact ⟨false, rfl, p1, p2, fun _ => rfl, fun _ h1 _ => absurd (Option.some.inj (HY.out.1.symm.trans h1)) d1⟩
    · have hlt' : decide ((k : Int) + 1 < (q : Int)) = false := decide_eq_false (by omega)
      have HLT := Lib.hid hlt
      clear hlt
      go_enter Tryd.func27, Tryd.ntmps27
      go_wp2_with fail
      go_ret
      obtain ⟨p1, p2⟩ := H.out.put false ((k : Int) + 2)
      exact ⟨false, rfl, p1, p2, fun _ => rfl, fun _ _ h2 => by have := (List.getElem?_eq_some_iff.1 h2).1; have := HLL.out; have := HLT.out; omega⟩

theorem fz27_runs (g gb bx size bg bk bl : Nat) (F : Nat → Bool) (ok0 : Bool) (vl : Value) (z : World) (hM : MapIs z g gb size F) (hO : On z) (hbm : z.cell? ⟨bx, 0, none⟩ = some (.pointer (some ⟨g, 0, none⟩))) (hz : size ≤ 8192)
    (h : LitF z bg bk bl ok0 0 vl (2 * (begs F size).length) (prI F size (begs F size).length)) (hg : bx ≠ bg ∧ bx ≠ bk) :
    Calls Tryd.prog 38 #[.func (.func 27) #[] #[.pointer (some ⟨bg, 0, none⟩), .pointer (some ⟨bk, 0, none⟩), .pointer (some ⟨bl, 0, none⟩)], .pointer (some ⟨bx, 0, none⟩)] z
      fun e W' => e = .returned (.tuple #[]) ∧ Fr [bg, bk] z W' ∧ ∃ k : Int, LitF W' bg bk bl ok0 k vl (2 * (begs F size).length) (prI F size (begs F size).length) ∧ (ok0 = true → k = ((2 * (begs F size).length : Nat) : Int)) := by
  obtain ⟨cs, hcs, _⟩ := hM.W
  have hlen : (begs F size).length ≤ size + 1 := begF_length F size (size + 1) _
  refine (runs1_anyV g gb bx 27 size _ F z hM hO hbm [bg, bk] ?_ ?_ ?_ (enters_of Tryd.func27 (by kernel_rfl) rfl)
    (FV bg bk bl ok0 vl (2 * (begs F size).length) (prI F size (begs F size).length)) (FU bg ok0) (fun _ _ _ => ok0 = false) ?_ ?_ ?_ ?_ ?_ ?_).mono ?_
  · intro x hx
    simp only [List.mem_cons, List.not_mem_nil, or_false] at hx
    rcases hx with rfl | rfl
    · exact h.o.lt
    · exact h.c.lt
  · have e1 : g ≠ bg := hM.B.ne h.o (by decide)
    have e2 : g ≠ bk := hM.B.ne h.c (by decide)
    simp [e1, e2]
  · simp [hg.1, hg.2]
  · rintro n₀ i A B row ⟨ok, h1, h2⟩ hg hr
    exact ⟨ok, h1, h2.kept hg hr⟩
  · intro n₀ i A B row h1 hg hr h0
    exact bk_kept (h1 h0) hg hr
  · intro n₀ i A B row h1 hg hr
    exact h1
  · intro n₀ W hn hn2 hf
    exact ⟨ok0, fun h => h, h.fr hf⟩
  · intro n₀ W hn hf h0
    have := (h.fr hf).o
    rw [h0] at this
    exact this
  · rintro n₀ x i W hn hi hx hfx ⟨ok, h1, h2⟩
    refine (fz27_any bg bk bl ok (2 * i) vl _ _ (x : Nat) ((endN F size x - x : Nat) : Int) W h2 (by omega) (by omega)).mono ?_
    rintro e W' ⟨ok', rfl, hL', hfr, hi1, hi2⟩
    rw [show ((2 * i : Nat) : Int) + 2 = ((2 * (i + 1) : Nat) : Int) by omega] at hL'
    refine ⟨ok', rfl, ⟨ok', fun h => hi1 (h1 h), hL'⟩, hfr.kb (fun y hy => .inl hy), hfr.keeps (fun y hy => ?_), fun hbi hu => ?_⟩
    · simp only [List.mem_cons, List.not_mem_nil, or_false] at hy
      rcases hy with rfl | rfl
      · exact ⟨_, _, h2.o⟩
      · exact ⟨_, _, h2.c⟩
    · cases ok0 with
      | false => exact ⟨fun _ h => (by cases h), fun _ => rfl⟩
      | true =>
        have e1 : ok = true := by have := bk_same h2.o (hu rfl); simpa using this
        have hil : i < (begs F size).length := (List.getElem?_eq_some_iff.1 hbi).1
        obtain ⟨a1, a2⟩ := prI_at hil hbi
        have := hi2 e1 a1 a2
        subst this
        exact ⟨fun _ _ => hL'.o, fun h => by cases h⟩
  · rintro e W' ⟨rfl, hkb, n₀, hn, hu⟩
    refine ⟨rfl, hkb.fr, ?_⟩
    cases ok0 with
    | false =>
      rcases hu with ⟨⟨ok, h1, h2⟩, -⟩ | ⟨i, hi, ⟨ok, h1, h2⟩, -⟩
      · rw [h1 rfl] at h2
        exact ⟨_, h2, fun h => by cases h⟩
      · rw [h1 rfl] at h2
        exact ⟨_, h2, fun h => by cases h⟩
    | true =>
      rcases hu with ⟨⟨ok, h1, h2⟩, hu⟩ | ⟨i, hi, ⟨ok, h1, h2⟩, hF⟩
      · have e1 : ok = true := by have := bk_same h2.o (hu rfl); simpa using this
        subst e1
        exact ⟨_, h2, fun _ => rfl⟩
      · cases hF

set_option maxRecDepth 100000 in
set_option maxHeartbeats 1600000 in
theorem fz28_any (bg bk bl : Nat) (ok : Bool) (k : Nat) (vl : Value) (q : Nat) (l : List Int) (x n : Int) (W : World) (h : LitF W bg bk bl ok (k : Int) vl q l) (hkl : k ≤ 200000) (hq : q ≤ 100000) :
    Calls Tryd.prog 28 #[.int .i64 x, .int .i64 n, .pointer (some ⟨bg, 0, none⟩), .pointer (some ⟨bk, 0, none⟩), .pointer (some ⟨bl, 0, none⟩)] W (LitFOk bg bk bl ok k vl q l x n W) := by
  obtain ⟨Aa, capa, rfl, _, _⟩ := h.L.look
  have hll : l.length = q := by have := h.L.1; unfold prV at this; simpa using this
  have c1 : W.cell? ⟨bg, 0, none⟩ = some (.bool ok) := h.o.cell 0
  have c2 : W.cell? ⟨bk, 0, none⟩ = some (.int .i64 k) := h.c.cell 0
  have c3 : W.cell? ⟨bl, 0, none⟩ = some (.slice Aa q capa) := h.b.cell 0
  have f1 := h.o.free 0
  have f2 := h.c.free 0
  have e1 : bg ≠ bk := h.o.ne h.c (by decide)
  have e2 : bl ≠ bg := h.b.ne h.o (by decide)
  have e3 : bl ≠ bk := h.b.ne h.c (by decide)
  have H := Lib.hid h
  have HLL := Lib.hid hll
  clear h hll
  cases ok with
  | false =>
    go_enter Tryd.func28, Tryd.ntmps28
    go_wp2_with fail
    go_ret
    obtain ⟨p1, p2⟩ := H.out.put false ((k : Int) + 2)
    exact ⟨false, rfl, p1, p2, fun _ => rfl, fun h => by cases h⟩
  | true =>
    by_cases hlt : k + 1 < q
    · have hlt' : decide ((k : Int) + 1 < (q : Int)) = true := decide_eq_true (by omega)
      obtain ⟨y1, hy1⟩ : ∃ y, l[k]? = some y := ⟨_, List.getElem?_eq_getElem (by have := HLL.out; omega)⟩
      obtain ⟨y2, hy2⟩ : ∃ y, l[k + 1]? = some y := ⟨_, List.getElem?_eq_getElem (by have := HLL.out; omega)⟩
      obtain ⟨ga, offa, _, hv, _, _, _, _, _, _, hcell⟩ := H.out.L.form (by omega)
      injection hv with hv1 _ hv3
      subst hv1
      have cA := hcell k _ (prV_at hy1)
      have cB := hcell (k + 1) _ (prV_at hy2)
      have k0 : (0 : Int) ≤ (k : Int) := by omega
      have k1 : (k : Int) < (q : Int) := by omega
      have k2 : (0 : Int) ≤ (k : Int) + 1 := by omega
      have k3 : (k : Int) + 1 < (q : Int) := by omega
      have k4 : IntKind.i64.wrap ((k : Int) + 1) = (k : Int) + 1 := IntWalk.i64_in _ (by omega)
      have k5 : ((k : Int) + 1).toNat = k + 1 := by omega
      have HY := Lib.hid (And.intro hy1 hy2)
      clear hcell hv3 hy1 hy2
      by_cases d1 : y1 = x
      · by_cases d2 : y2 = n
        · subst d1
          subst d2
          have x1 : (y1 == y1) = true := by simp
          have x2 : (y2 == y2) = true := by simp
          go_enter Tryd.func28, Tryd.ntmps28
          go_wp2_with fail
          go_ret
          obtain ⟨p1, p2⟩ := H.out.put true ((k : Int) + 2)
          exact ⟨true, rfl, p1, p2, (fun h => by cases h), fun _ _ _ => rfl⟩
        · have x1 : (y1 == x) = true := by simpa using d1
          have x2 : (y2 == n) = false := by simpa using d2
          go_enter Tryd.func28, Tryd.ntmps28
          go_wp2_with fail
          go_ret
          obtain ⟨p1, p2⟩ := H.out.put false ((k : Int) + 2)
          exact ⟨false, rfl, p1, p2, fun _ => rfl, fun _ _ h2 => absurd (Option.some.inj (HY.out.2.symm.trans h2)) d2⟩
      · have x1 : (y1 == x) = false := by simpa using d1
        go_enter Tryd.func28, Tryd.ntmps28
        go_wp2_with fail
        go_ret
        obtain ⟨p1, p2⟩ := H.out.put false ((k : Int) + 2)
        exact ⟨false, rfl, p1, p2, fun _ => rfl, fun _ h1 _ => absurd (Option.some.inj (HY.out.1.symm.trans h1)) d1⟩
    · have hlt' : decide ((k : Int) + 1 < (q : Int)) = false := decide_eq_false (by omega)
      have HLT := Lib.hid hlt
      clear hlt
      go_enter Tryd.func28, Tryd.ntmps28
      go_wp2_with fail
      go_ret
      obtain ⟨p1, p2⟩ := H.out.put false ((k : Int) + 2)
      exact ⟨false, rfl, p1, p2, fun _ => rfl, fun _ _ h2 => by have := (List.getElem?_eq_some_iff.1 h2).1; have := HLL.out; have := HLT.out; omega⟩

theorem fz28_runs (g gb bx size bg bk bl : Nat) (F : Nat → Bool) (ok0 : Bool) (vl : Value) (z : World) (hM : MapIs z g gb size F) (hO : On z) (hbm : z.cell? ⟨bx, 0, none⟩ = some (.pointer (some ⟨g, 0, none⟩))) (hz : size ≤ 8192)
    (h : LitF z bg bk bl ok0 0 vl (2 * (begs F size).length) (prI F size (begs F size).length)) (hg : bx ≠ bg ∧ bx ≠ bk) :
    Calls Tryd.prog 38 #[.func (.func 28) #[] #[.pointer (some ⟨bg, 0, none⟩), .pointer (some ⟨bk, 0, none⟩), .pointer (some ⟨bl, 0, none⟩)], .pointer (some ⟨bx, 0, none⟩)] z
      fun e W' => e = .returned (.tuple #[]) ∧ Fr [bg, bk] z W' ∧ ∃ k : Int, LitF W' bg bk bl ok0 k vl (2 * (begs F size).length) (prI F size (begs F size).length) ∧ (ok0 = true → k = ((2 * (begs F size).length : Nat) : Int)) := by
  obtain ⟨cs, hcs, _⟩ := hM.W
  have hlen : (begs F size).length ≤ size + 1 := begF_length F size (size + 1) _
  refine (runs1_anyV g gb bx 28 size _ F z hM hO hbm [bg, bk] ?_ ?_ ?_ (enters_of Tryd.func28 (by kernel_rfl) rfl)
    (FV bg bk bl ok0 vl (2 * (begs F size).length) (prI F size (begs F size).length)) (FU bg ok0) (fun _ _ _ => ok0 = false) ?_ ?_ ?_ ?_ ?_ ?_).mono ?_
  · intro x hx
    simp only [List.mem_cons, List.not_mem_nil, or_false] at hx
    rcases hx with rfl | rfl
    · exact h.o.lt
    · exact h.c.lt
  · have e1 : g ≠ bg := hM.B.ne h.o (by decide)
    have e2 : g ≠ bk := hM.B.ne h.c (by decide)
    simp [e1, e2]
  · simp [hg.1, hg.2]
  · rintro n₀ i A B row ⟨ok, h1, h2⟩ hg hr
    exact ⟨ok, h1, h2.kept hg hr⟩
  · intro n₀ i A B row h1 hg hr h0
    exact bk_kept (h1 h0) hg hr
  · intro n₀ i A B row h1 hg hr
    exact h1
  · intro n₀ W hn hn2 hf
    exact ⟨ok0, fun h => h, h.fr hf⟩
  · intro n₀ W hn hf h0
    have := (h.fr hf).o
    rw [h0] at this
    exact this
  · rintro n₀ x i W hn hi hx hfx ⟨ok, h1, h2⟩
    refine (fz28_any bg bk bl ok (2 * i) vl _ _ (x : Nat) ((endN F size x - x : Nat) : Int) W h2 (by omega) (by omega)).mono ?_
    rintro e W' ⟨ok', rfl, hL', hfr, hi1, hi2⟩
    rw [show ((2 * i : Nat) : Int) + 2 = ((2 * (i + 1) : Nat) : Int) by omega] at hL'
    refine ⟨ok', rfl, ⟨ok', fun h => hi1 (h1 h), hL'⟩, hfr.kb (fun y hy => .inl hy), hfr.keeps (fun y hy => ?_), fun hbi hu => ?_⟩
    · simp only [List.mem_cons, List.not_mem_nil, or_false] at hy
      rcases hy with rfl | rfl
      · exact ⟨_, _, h2.o⟩
      · exact ⟨_, _, h2.c⟩
    · cases ok0 with
      | false => exact ⟨fun _ h => (by cases h), fun _ => rfl⟩
      | true =>
        have e1 : ok = true := by have := bk_same h2.o (hu rfl); simpa using this
        have hil : i < (begs F size).length := (List.getElem?_eq_some_iff.1 hbi).1
        obtain ⟨a1, a2⟩ := prI_at hil hbi
        have := hi2 e1 a1 a2
        subst this
        exact ⟨fun _ _ => hL'.o, fun h => by cases h⟩
  · rintro e W' ⟨rfl, hkb, n₀, hn, hu⟩
    refine ⟨rfl, hkb.fr, ?_⟩
    cases ok0 with
    | false =>
      rcases hu with ⟨⟨ok, h1, h2⟩, -⟩ | ⟨i, hi, ⟨ok, h1, h2⟩, -⟩
      · rw [h1 rfl] at h2
        exact ⟨_, h2, fun h => by cases h⟩
      · rw [h1 rfl] at h2
        exact ⟨_, h2, fun h => by cases h⟩
    | true =>
      rcases hu with ⟨⟨ok, h1, h2⟩, hu⟩ | ⟨i, hi, ⟨ok, h1, h2⟩, hF⟩
      · have e1 : ok = true := by have := bk_same h2.o (hu rfl); simpa using this
        subst e1
        exact ⟨_, h2, fun _ => rfl⟩
      · cases hF
end Go.Proofs.YtheiacfdbhjbmaaDoor
