/-
  Marks: the function literal of MarksFrozen that goes through the runs and changes the map on the way.
-/
import Derived.Test.YtheiacfdbhjbmaaDoorMkFz2
import Derived.Deep.CutBlock
namespace Go.Proofs.YtheiacfdbhjbmaaDoor
open Go.RowKit Go.Shelf Mk
set_option linter.unusedVariables false

/-- The literal's boxes, the map, the numbers that are marked on the way. -/
structure LitM (W : World) (bg bn bw bm bq bx bh bo g gb size : Nat) (vw : Value) (qw : Nat) (lw : List Int) (hen : Int) (Ao : Option Addr) (co : Nat) (lo : List Int) (ok : Bool) (k : Int) (F : Nat → Bool) : Prop where
  f : LitF W bg bn bw ok k vw qw lw
  m : Bk W bm 24 #[.pointer (some ⟨g, 0, none⟩)]
  q : Bk W bq 40 #[.func (.func 38) #[] #[.pointer (some ⟨bx, 0, none⟩)]]
  x : Bk W bx 24 #[.pointer (some ⟨g, 0, none⟩)]
  h : Bk W bh 3 #[.int .i64 hen]
  o : Bk W bo 22 #[.slice Ao lo.length co]
  M : MapIs W g gb size F
  O : On W
  R : RdI W Ao lo
  n1 : bn ≠ bh
  n0 : bg ≠ 0 ∧ bn ≠ 0 ∧ gb ≠ 0
  nA : 0 < lo.length → ∀ a, Ao = some a → a.block ≠ bg ∧ a.block ≠ bn ∧ a.block ≠ gb
theorem LitM.turn {W W' : World} {bg bn bw bm bq bx bh bo g gb size : Nat} {vw : Value} {qw : Nat} {lw : List Int} {hen : Int} {Ao : Option Addr} {co : Nat} {lo : List Int} {ok ok' : Bool} {k k' : Int} {F F' : Nat → Bool} {S : List Nat} (h : LitM W bg bn bw bm bq bx bh bo g gb size vw qw lw hen Ao co lo ok k F) (hf : Fr S W W') (hS : ∀ x ∈ S, x = bg ∨ x = bn ∨ x = gb)
    (h1 : LitF W' bg bn bw ok' k' vw qw lw) (h2 : MapIs W' g gb size F') : LitM W' bg bn bw bm bq bx bh bo g gb size vw qw lw hen Ao co lo ok' k' F' := by
  obtain ⟨cs, hcs, _⟩ := h.M.W
  have nb : ∀ {b : Nat} {t : TypeId} {c : Array Value}, Bk W b t c → t ≠ 4 → t ≠ 3 → t ≠ 58 → b ∉ S := by
    intro b t c hb e1 e2 e3 hx
    rcases hS b hx with e | e | e
    · exact hb.ne h.f.o e1 e
    · exact hb.ne h.f.c e2 e
    · exact hb.ne hcs e3 e
  refine ⟨h1, h.m.fr hf (nb h.m (by decide) (by decide) (by decide)), h.q.fr hf (nb h.q (by decide) (by decide) (by decide)), h.x.fr hf (nb h.x (by decide) (by decide) (by decide)), h.h.fr hf (fun hx => ?_),
    h.o.fr hf (nb h.o (by decide) (by decide) (by decide)), h2, h.O.fr hf (fun hx => ?_), ?_, h.n1, h.n0, h.nA⟩
  · rcases hS bh hx with e | e | e
    · exact h.h.ne h.f.o (by decide) e
    · exact h.n1 e.symm
    · exact h.h.ne hcs (by decide) e
  · rcases hS 0 hx with e | e | e
    · exact h.n0.1 e.symm
    · exact h.n0.2.1 e.symm
    · exact h.n0.2.2 e.symm
  · rcases Nat.eq_zero_or_pos lo.length with h0 | h0
    · exact ⟨h.R.1, fun hn => by omega⟩
    · refine h.R.fr hf (fun a ha hx => ?_)
      obtain ⟨a1, a2, a3⟩ := h.nA h0 a ha
      rcases hS _ hx with e | e | e
      · exact a1 e
      · exact a2 e
      · exact a3 e
theorem LitM.fr {W W' : World} {bg bn bw bm bq bx bh bo g gb size : Nat} {vw : Value} {qw : Nat} {lw : List Int} {hen : Int} {Ao : Option Addr} {co : Nat} {lo : List Int} {ok : Bool} {k : Int} {F : Nat → Bool} (h : LitM W bg bn bw bm bq bx bh bo g gb size vw qw lw hen Ao co lo ok k F) (hf : Fr [] W W') : LitM W' bg bn bw bm bq bx bh bo g gb size vw qw lw hen Ao co lo ok k F :=
  h.turn hf (by simp) (h.f.fr hf) (h.M.fr hf (by simp) (by simp))
theorem LitM.kept {W W' : World} {row : Option Nat} {bg bn bw bm bq bx bh bo g gb size : Nat} {vw : Value} {qw : Nat} {lw : List Int} {hen : Int} {Ao : Option Addr} {co : Nat} {lo : List Int} {ok : Bool} {k : Int} {F : Nat → Bool} (h : LitM W bg bn bw bm bq bx bh bo g gb size vw qw lw hen Ao co lo ok k F)
    (hg : W.grownBy W' row) (hrow : ∀ r, row = some r → ∃ o : Obj, W.heap[r]? = some o ∧ o.isCells = false) : LitM W' bg bn bw bm bq bx bh bo g gb size vw qw lw hen Ao co lo ok k F :=
  ⟨h.f.kept hg hrow, bk_kept h.m hg hrow, bk_kept h.q hg hrow, bk_kept h.x hg hrow, bk_kept h.h hg hrow, bk_kept h.o hg hrow, map_kept h.M hg hrow, on_kept h.O hg hrow,
    ⟨h.R.1, fun hn => by
      obtain ⟨b, o, e, hb, hc⟩ := h.R.2 hn
      exact ⟨b, o, e, Nat.lt_of_lt_of_le hb hg.size, fun i x hx => cell_kept (hc i x hx) hg hrow⟩⟩, h.n1, h.n0, h.nA⟩
theorem LitM.putO {W : World} {bg bn bw bm bq bx bh bo g gb size : Nat} {vw : Value} {qw : Nat} {lw : List Int} {hen : Int} {Ao : Option Addr} {co : Nat} {lo : List Int} {ok : Bool} {k : Int} {F : Nat → Bool} (h : LitM W bg bn bw bm bq bx bh bo g gb size vw qw lw hen Ao co lo ok k F) (ok' : Bool) :
    LitM (W.setCell ⟨bg, 0, none⟩ (.bool ok')) bg bn bw bm bq bx bh bo g gb size vw qw lw hen Ao co lo ok' k F ∧ Fr [bg] W (W.setCell ⟨bg, 0, none⟩ (.bool ok')) := by
  have hf : Fr [bg] W (W.setCell ⟨bg, 0, none⟩ (.bool ok')) := (Fr.refl _ _).setCell (by simp) _
  obtain ⟨cs, hcs, _⟩ := h.M.W
  have e1 : bn ≠ bg := h.f.c.ne h.f.o (by decide)
  have e2 : bw ≠ bg := h.f.b.ne h.f.o (by decide)
  have e3 : g ≠ bg := h.M.B.ne h.f.o (by decide)
  have e4 : gb ≠ bg := hcs.ne h.f.o (by decide)
  refine ⟨h.turn hf (fun x hx => .inl (by simpa using hx)) ⟨?_, h.f.c.fr hf (by simp [e1]), h.f.b.fr hf (by simp [e2]), h.f.L.fr hf (fun j hj hx => h.f.L.ne_bk h.f.o (by decide) j hj (by simpa using hx)), h.f.n1⟩ (h.M.fr hf (by simp [e3]) (by simp [e4])), hf⟩
  have := h.f.o.put 0 (.bool ok')
  simpa using this
theorem LitM.putK {W : World} {bg bn bw bm bq bx bh bo g gb size : Nat} {vw : Value} {qw : Nat} {lw : List Int} {hen : Int} {Ao : Option Addr} {co : Nat} {lo : List Int} {ok : Bool} {k : Int} {F : Nat → Bool} (h : LitM W bg bn bw bm bq bx bh bo g gb size vw qw lw hen Ao co lo ok k F) (k' : Int) :
    LitM (W.setCell ⟨bn, 0, none⟩ (.int .i64 k')) bg bn bw bm bq bx bh bo g gb size vw qw lw hen Ao co lo ok k' F ∧ Fr [bn] W (W.setCell ⟨bn, 0, none⟩ (.int .i64 k')) := by
  have hf : Fr [bn] W (W.setCell ⟨bn, 0, none⟩ (.int .i64 k')) := (Fr.refl _ _).setCell (by simp) _
  obtain ⟨cs, hcs, _⟩ := h.M.W
  have e1 : bg ≠ bn := h.f.o.ne h.f.c (by decide)
  have e2 : bw ≠ bn := h.f.b.ne h.f.c (by decide)
  have e3 : g ≠ bn := h.M.B.ne h.f.c (by decide)
  have e4 : gb ≠ bn := hcs.ne h.f.c (by decide)
  refine ⟨h.turn hf (fun x hx => .inr (.inl (by simpa using hx))) ⟨h.f.o.fr hf (by simp [e1]), ?_, h.f.b.fr hf (by simp [e2]), h.f.L.fr hf (fun j hj hx => h.f.n1 j hj (by simpa using hx)), h.f.n1⟩ (h.M.fr hf (by simp [e3]) (by simp [e4])), hf⟩
  have := h.f.c.put 0 (.int .i64 k')
  simpa using this
theorem LitM.good {W W' : World} {bg bn bw bm bq bx bh bo g gb size : Nat} {vw : Value} {qw : Nat} {lw : List Int} {hen : Int} {Ao : Option Addr} {co : Nat} {lo : List Int} {ok ok' : Bool} {k : Int} {F : Nat → Bool} (h : LitM W bg bn bw bm bq bx bh bo g gb size vw qw lw hen Ao co lo ok k F) (hf : Fr [bg] W W') (ho : Bk W' bg 4 #[.bool ok']) : LitM W' bg bn bw bm bq bx bh bo g gb size vw qw lw hen Ao co lo ok' k F := by
  obtain ⟨cs, hcs, _⟩ := h.M.W
  have e1 : bn ≠ bg := h.f.c.ne h.f.o (by decide)
  have e2 : bw ≠ bg := h.f.b.ne h.f.o (by decide)
  have e3 : g ≠ bg := h.M.B.ne h.f.o (by decide)
  have e4 : gb ≠ bg := hcs.ne h.f.o (by decide)
  exact h.turn hf (fun x hx => .inl (by simpa using hx)) ⟨ho, h.f.c.fr hf (by simp [e1]), h.f.b.fr hf (by simp [e2]), h.f.L.fr hf (fun j hj hx => h.f.L.ne_bk h.f.o (by decide) j hj (by simpa using hx)), h.f.n1⟩ (h.M.fr hf (by simp [e3]) (by simp [e4]))
/-- The map turned alone. -/
theorem LitM.map {W W' : World} {bg bn bw bm bq bx bh bo g gb size : Nat} {vw : Value} {qw : Nat} {lw : List Int} {hen : Int} {Ao : Option Addr} {co : Nat} {lo : List Int} {ok : Bool} {k : Int} {F F' : Nat → Bool} (h : LitM W bg bn bw bm bq bx bh bo g gb size vw qw lw hen Ao co lo ok k F) (hf : Fr [gb] W W') (hM : MapIs W' g gb size F') : LitM W' bg bn bw bm bq bx bh bo g gb size vw qw lw hen Ao co lo ok k F' := by
  obtain ⟨cs, hcs, _⟩ := h.M.W
  have e1 : bg ≠ gb := h.f.o.ne hcs (by decide)
  have e2 : bn ≠ gb := h.f.c.ne hcs (by decide)
  have e3 : bw ≠ gb := h.f.b.ne hcs (by decide)
  exact h.turn hf (fun x hx => .inr (.inr (by simpa using hx))) ⟨h.f.o.fr hf (by simp [e1]), h.f.c.fr hf (by simp [e2]), h.f.b.fr hf (by simp [e3]), h.f.L.fr hf (fun j hj hx => h.f.L.ne_bk hcs (by decide) j hj (by simpa using hx)), h.f.n1⟩ hM

def Fz26Ok (bg bn bw bm bq bx bh bo g gb size : Nat) (vw : Value) (qw : Nat) (lw : List Int) (hen : Int) (Ao : Option Addr) (co : Nat) (lo : List Int) (ok : Bool) (k : Nat) (x n : Int) (W : World) (e : Ending) (W' : World) : Prop :=
  ∃ ok' F', e = .returned (.bool ok') ∧ LitM W' bg bn bw bm bq bx bh bo g gb size vw qw lw hen Ao co lo ok' ((k : Int) + 2) F' ∧ Fr [bg, bn, gb] W W' ∧ (ok = true → lw[k]? = some x → lw[k + 1]? = some n → ok' = true)

def OkStep (ok ok1 : Bool) (lw : List Int) (k : Nat) (x n : Int) : Prop := ok = true → lw[k]? = some x → lw[k + 1]? = some n → ok1 = true

set_option maxRecDepth 100000 in
set_option maxHeartbeats 6400000 in
theorem fz26_any (bg bn bw bm bq bx bh bo g gb size : Nat) (vw : Value) (qw : Nat) (lw : List Int) (hen : Int) (Ao : Option Addr) (co : Nat) (lo : List Int) (ok : Bool) (k : Nat) (F : Nat → Bool) (x n : Int) (W : World) (h : LitM W bg bn bw bm bq bx bh bo g gb size vw qw lw hen Ao co lo ok (k : Int) F) (hkl : k ≤ 200000) (hqw : qw ≤ 100000) (hz : size ≤ 8192) (hlo : ∀ x ∈ lo, x ≤ 9223372036854775807) :
    Calls Tryd.prog 26 #[.int .i64 x, .int .i64 n, .pointer (some ⟨bg, 0, none⟩), .pointer (some ⟨bn, 0, none⟩), .pointer (some ⟨bw, 0, none⟩), .pointer (some ⟨bm, 0, none⟩), .pointer (some ⟨bq, 0, none⟩), .pointer (some ⟨bh, 0, none⟩), .pointer (some ⟨bo, 0, none⟩)] W (Fz26Ok bg bn bw bm bq bx bh bo g gb size vw qw lw hen Ao co lo ok k x n W) := by
  obtain ⟨Aa, capa, rfl, _, _⟩ := h.f.L.look
  have hll : lw.length = qw := by have := h.f.L.1; unfold prV at this; simpa using this
  have c1 : W.cell? ⟨bg, 0, none⟩ = some (.bool ok) := h.f.o.cell 0
  have c2 : W.cell? ⟨bn, 0, none⟩ = some (.int .i64 k) := h.f.c.cell 0
  have c3 : W.cell? ⟨bw, 0, none⟩ = some (.slice Aa qw capa) := h.f.b.cell 0
  have f1 := h.f.o.free 0
  have H := Lib.hid h
  have HLL := Lib.hid hll
  have HLO := Lib.hid hlo
  clear h hll hlo
  go_enter Tryd.func26, Tryd.ntmps26
  go_upto_region 1 with fail
  go_cut [38] (fun v wx => ∃ ok1 : Bool, v = .bool ok1 ∧ Hid (LitM wx bg bn bw bm bq bx bh bo g gb size (.slice Aa qw capa) qw lw hen Ao co lo ok1 (k : Int) F) ∧ Hid (Fr [bg] W wx) ∧ OkStep ok ok1 lw k x n)
  case first =>
    cases ok with
    | false =>
      go_wp2_with fail
      go_meet
      case rel => exact ⟨false, rfl, Lib.hid (H.out.putO false).1, Lib.hid (H.out.putO false).2, fun h => by cases h⟩
    | true =>
      by_cases hlt : k + 1 < qw
      · have hlt' : decide ((k : Int) + 1 < (qw : Int)) = true := decide_eq_true (by omega)
        obtain ⟨y1, hy1⟩ : ∃ y, lw[k]? = some y := ⟨_, List.getElem?_eq_getElem (by have := HLL.out; omega)⟩
        obtain ⟨y2, hy2⟩ : ∃ y, lw[k + 1]? = some y := ⟨_, List.getElem?_eq_getElem (by have := HLL.out; omega)⟩
        obtain ⟨ga, offa, _, hv, _, _, _, _, _, _, hcell⟩ := H.out.f.L.form (by omega)
        injection hv with hv1 _ hv3
        subst hv1
        have cA := hcell k _ (prV_at hy1)
        have cB := hcell (k + 1) _ (prV_at hy2)
        have k0 : (0 : Int) ≤ (k : Int) := by omega
        have k1 : (k : Int) < (qw : Int) := by omega
        have k2 : (0 : Int) ≤ (k : Int) + 1 := by omega
        have k3 : (k : Int) + 1 < (qw : Int) := by omega
        have k4 : IntKind.i64.wrap ((k : Int) + 1) = (k : Int) + 1 := IntWalk.i64_in _ (by omega)
        have k5 : ((k : Int) + 1).toNat = k + 1 := by omega
        have HY := Lib.hid (And.intro hy1 hy2)
        clear hcell hv3 hy1 hy2
        by_cases d1 : y1 = x
        · by_cases d2 : y2 = n
          · have x1 : (y1 == x) = true := by simpa using d1
            have x2 : (y2 == n) = true := by simpa using d2
            go_wp2_with fail
            go_meet
            case rel => exact ⟨true, rfl, Lib.hid (H.out.putO true).1, Lib.hid (H.out.putO true).2, fun _ _ _ => rfl⟩
          · have x1 : (y1 == x) = true := by simpa using d1
            have x2 : (y2 == n) = false := by simpa using d2
            go_wp2_with fail
            go_meet
            case rel => exact ⟨false, rfl, Lib.hid (H.out.putO false).1, Lib.hid (H.out.putO false).2, fun _ _ h2 => absurd (Option.some.inj (HY.out.2.symm.trans h2)) d2⟩
        · have x1 : (y1 == x) = false := by simpa using d1
          go_wp2_with fail
          go_meet
          case rel => exact ⟨false, rfl, Lib.hid (H.out.putO false).1, Lib.hid (H.out.putO false).2, fun _ h1 _ => absurd (Option.some.inj (HY.out.1.symm.trans h1)) d1⟩
      · have hlt' : decide ((k : Int) + 1 < (qw : Int)) = false := decide_eq_false (by omega)
        have HLT := Lib.hid hlt
        clear hlt
        go_wp2_with fail
        go_meet
        case rel => exact ⟨false, rfl, Lib.hid (H.out.putO false).1, Lib.hid (H.out.putO false).2, fun _ _ h2 => by have := (List.getElem?_eq_some_iff.1 h2).1; have := HLL.out; have := HLT.out; omega⟩
  obtain ⟨ok1, rfl, HM1, HF1, hstep⟩ := hcut
  have HST := Lib.hid hstep
  clear hstep c1 c2 c3 f1 H
  have c2 : wc.cell? ⟨bn, 0, none⟩ = some (.int .i64 k) := HM1.out.f.c.cell 0
  have f2 := HM1.out.f.c.free 0
  obtain ⟨W2, hW2⟩ : ∃ W2, W2 = wc.setCell ⟨bn, 0, none⟩ (.int .i64 ((k : Int) + 2)) := ⟨_, rfl⟩
  obtain ⟨hM2, hF2⟩ := HM1.out.putK ((k : Int) + 2)
  rw [← hW2] at hM2 hF2
  have HM2 := Lib.hid hM2
  have HF2 : Hid (Fr [bg, bn, gb] W W2) := (HF1.out.mono (fun y hy => .inl (by simp at hy; simp [hy]))).trans hF2 (fun y hy => .inl (by simp at hy; simp [hy]))
  have HW2 := Lib.hid hW2
  clear hM2 hF2 hW2 HM1 HF1
  go_upto_region 3 with fail
  rw [← HW2.out]
  clear c2 f2
  have c1 : W2.cell? ⟨bg, 0, none⟩ = some (.bool ok1) := HM2.out.f.o.cell 0
  have c2 : W2.cell? ⟨bn, 0, none⟩ = some (.int .i64 ((k : Int) + 2)) := HM2.out.f.c.cell 0
  have c3 : W2.cell? ⟨bm, 0, none⟩ = some (.pointer (some ⟨g, 0, none⟩)) := HM2.out.m.cell 0
  have c4 : W2.cell? ⟨bq, 0, none⟩ = some (.func (.func 38) #[] #[.pointer (some ⟨bx, 0, none⟩)]) := HM2.out.q.cell 0
  obtain ⟨B1, hB1⟩ : ∃ B1, decide ((k : Int) + 2 ≤ 6) = B1 := ⟨_, rfl⟩
  go_upto_if 42 with fail
  go_cut [] (fun wx => ∃ ok2 : Bool, Hid (ok1 = true → ok2 = true) ∧ Hid (LitM wx bg bn bw bm bq bx bh bo g gb size (.slice Aa qw capa) qw lw hen Ao co lo ok2 ((k : Int) + 2) F) ∧ Hid (Fr [bg, bn, gb] W wx))
  case first =>
    cases B1 with
    | false =>
      go_wp2_with fail
      go_meet
      case rel => exact ⟨ok1, Lib.hid (fun h => h), HM2, HF2⟩
    | true =>
      go_wp2_with fail
      refine (pairs_any g gb size F W2 HM2.out.M HM2.out.O hz).mono ?_
      rintro e w3 ⟨v, rfl, hL3, hf3⟩
      obtain ⟨Av, capv, rfl, _, _⟩ := hL3.look
      obtain ⟨z, hzz⟩ : ∃ z, z = (w3.alloc (.cells #[.slice Av (2 * (begs F size).length) capv] 22)).alloc (.cells #[.int .i64 0] 3) := ⟨_, rfl⟩
      have hfz : Fr [] w3 z := by rw [hzz]; exact ((Fr.refl _ _).alloc _).alloc _
      have hbl : Bk z w3.heap.size 22 #[.slice Av (2 * (begs F size).length) capv] := by rw [hzz]; exact (Bk.new _ _ _).alloc _
      have hbk : Bk z (w3.heap.size + 1) 3 #[.int .i64 0] := by rw [hzz]; exact Bk.new_at _ _ _ _ (by simp)
      have hMz := HM2.out.fr (hf3.trans hfz (by simp))
      have hq3 := hf3.size
      have hxl := HM2.out.x.lt
      have hxg : bx ≠ bg := HM2.out.x.ne HM2.out.f.o (by decide)
      have HRUN := Lib.hid (fz27_runs g gb bx size bg (w3.heap.size + 1) w3.heap.size F ok1 (.slice Av (2 * (begs F size).length) capv) z hMz.M hMz.O (hMz.x.cell 0) hz
        ⟨hMz.f.o, hbk, hbl, (hL3.fr hfz (by simp)).mono (Nat.zero_le _), fun j hj => by have := (hL3.lt j hj).2; omega⟩ ⟨hxg, by omega⟩)
      have HMz := Lib.hid hMz
      have HFz : Hid (Fr [] W2 z) := hf3.trans hfz (by simp)
      have HZ := Lib.hid hzz
      have c4 : z.cell? ⟨bq, 0, none⟩ = some (.func (.func 38) #[] #[.pointer (some ⟨bx, 0, none⟩)]) := hMz.q.cell 0
      clear hL3 hf3 hfz hbl hbk hMz hxl hxg hzz c1 c2 c3
      go_upto_region 6 with fail
      rw [← HZ.out]
      go_wp2_with fail
      refine (Calls.mono HRUN.out ?_)
      rintro e w4 ⟨rfl, hf4, k', hF4, hk'⟩
      have d1 : w4.cell? ⟨bg, 0, none⟩ = some (.bool ok1) := hF4.o.cell 0
      have d2 : w4.cell? ⟨w3.heap.size + 1, 0, none⟩ = some (.int .i64 k') := hF4.c.cell 0
      have d3 : w4.cell? ⟨w3.heap.size, 0, none⟩ = some (.slice Av (2 * (begs F size).length) capv) := hF4.b.cell 0
      have f4 := hF4.o.free 0
      have hf24 : Fr [bg] W2 w4 := (HFz.out.mono (by simp)).trans hf4 (fun y hy => by
        simp only [List.mem_cons, List.not_mem_nil, or_false] at hy ⊢
        rcases hy with e | e
        · exact .inl e
        · exact .inr (by omega))
      have HM4 := Lib.hid (HM2.out.good hf24 hF4.o)
      have HF4 := Lib.hid (HF2.out.trans hf24 (fun y hy => .inl (by simp at hy; simp [hy])))
      have HEND : Hid (LitM (w4.setCell ⟨bg, 0, none⟩ (.bool ok1)) bg bn bw bm bq bx bh bo g gb size (.slice Aa qw capa) qw lw hen Ao co lo ok1 ((k : Int) + 2) F ∧ Fr [bg, bn, gb] W (w4.setCell ⟨bg, 0, none⟩ (.bool ok1))) :=
        ⟨(HM4.out.putO ok1).1, HF4.out.trans (HM4.out.putO ok1).2 (fun y hy => .inl (by simp at hy; simp [hy]))⟩
      clear hf4 hF4 hf24 c4 hq3
      cases ok1 with
      | false =>
        go_wp2_with fail
        go_meet
        case rel => exact ⟨false, Lib.hid (fun h => h), Lib.hid HEND.out.1, Lib.hid HEND.out.2⟩
      | true =>
        obtain rfl := hk' rfl
        obtain ⟨N2, hN2⟩ : ∃ N2, 2 * (begs F size).length = N2 := ⟨_, rfl⟩
        rw [hN2] at d2 d3
        have x1 : ((N2 : Int) == (N2 : Int)) = true := by simp
        clear hk' hN2
        go_wp2_with fail
        go_meet
        case rel => exact ⟨true, Lib.hid (fun _ => rfl), Lib.hid HEND.out.1, Lib.hid HEND.out.2⟩
  obtain ⟨ok2, HOK, HM3, HF3⟩ := hcut
  clear c1 c2 c3 c4 hB1 HM2 HF2 HW2
  have c1 : wc.cell? ⟨bn, 0, none⟩ = some (.int .i64 ((k : Int) + 2)) := HM3.out.f.c.cell 0
  have c2 : wc.cell? ⟨bh, 0, none⟩ = some (.int .i64 hen) := HM3.out.h.cell 0
  have c3 : wc.cell? ⟨bm, 0, none⟩ = some (.pointer (some ⟨g, 0, none⟩)) := HM3.out.m.cell 0
  obtain ⟨m2, hm2⟩ : ∃ m2, IntKind.i64.wrap (2 * hen) = m2 := ⟨_, rfl⟩
  have hm2' : wrap64 (2 * hen) = m2 := by rw [← hm2]; exact (IntWalk.i64_left _).symm
  obtain ⟨B2, hB2⟩ : ∃ B2, (((k : Int) + 2) == m2) = B2 := ⟨_, rfl⟩
  obtain ⟨w5, hw5⟩ : ∃ w5, w5 = wc := ⟨_, rfl⟩
  rw [← hw5] at c1 c2 c3 HM3 HF3 ⊢
  clear hw5
  go_upto_if 58 with fail
  go_cut [] (fun wx => ∃ F2, Hid (LitM wx bg bn bw bm bq bx bh bo g gb size (.slice Aa qw capa) qw lw hen Ao co lo ok2 ((k : Int) + 2) F2) ∧ Hid (Fr [bg, bn, gb] W wx))
  case first =>
    cases B2 with
    | false =>
      go_wp2_with fail
      go_meet
      case rel => exact ⟨F, HM3, HF3⟩
    | true =>
      go_wp2_with fail
      refine (clear_any g gb size F w5 HM3.out.M).mono ?_
      rintro e w6 ⟨rfl, hM6, hf6⟩
      have HM6 := Lib.hid (HM3.out.map hf6 hM6)
      have HF6 := Lib.hid (HF3.out.trans hf6 (fun y hy => .inl (by simp at hy; simp [hy])))
      clear hM6 hf6
      go_wp2_with fail
      go_meet
      case rel => exact ⟨_, HM6, HF6⟩
  obtain ⟨F2, HM5, HF5⟩ := hcut
  clear c1 c2 c3 hm2 hm2' hB2 HM3 HF3
  obtain ⟨w7, hw7⟩ : ∃ w7, w7 = wc := ⟨_, rfl⟩
  rw [← hw7] at HM5 HF5 ⊢
  clear hw7
  have c1 : w7.cell? ⟨bn, 0, none⟩ = some (.int .i64 ((k : Int) + 2)) := HM5.out.f.c.cell 0
  have c2 : w7.cell? ⟨bo, 0, none⟩ = some (.slice Ao lo.length co) := HM5.out.o.cell 0
  have c3 : w7.cell? ⟨bm, 0, none⟩ = some (.pointer (some ⟨g, 0, none⟩)) := HM5.out.m.cell 0
  go_upto_region 10 with fail
  go_cut [68] (fun v wx => v = .bool (decide (k + 2 < lo.length ∧ k + 2 ≤ 600)) ∧ w7 = wx)
  case first =>
    go_wp2_with fail
    all_goals
      go_meet
      case rel => exact ⟨congrArg Value.bool (by first | exact decide_eq_decide.2 (by omega) | exact (decide_eq_false (by omega)).symm), rfl⟩
  obtain ⟨rfl, rfl⟩ := hcut
  obtain ⟨B3, hB3⟩ : ∃ B3, decide (k + 2 < lo.length ∧ k + 2 ≤ 600) = B3 := ⟨_, rfl⟩
  rw [hB3]
  go_upto_if 68 with fail
  go_cut [] (fun wx => ∃ F3, Hid (LitM wx bg bn bw bm bq bx bh bo g gb size (.slice Aa qw capa) qw lw hen Ao co lo ok2 ((k : Int) + 2) F3) ∧ Hid (Fr [bg, bn, gb] W wx))
  case first =>
    cases B3 with
    | false =>
      go_wp2_with fail
      go_meet
      case rel => exact ⟨F2, HM5, HF5⟩
    | true =>
      obtain ⟨b1, b2⟩ := of_decide_eq_true hB3
      obtain ⟨bb, oo, rfl, hbb, hc⟩ := HM5.out.R.2 (by omega)
      obtain ⟨y1, hy1⟩ : ∃ y, lo[k]? = some y := ⟨_, List.getElem?_eq_getElem (by omega)⟩
      obtain ⟨y2, hy2⟩ : ∃ y, lo[k + 1]? = some y := ⟨_, List.getElem?_eq_getElem (by omega)⟩
      have hyb1 := HLO.out y1 (List.mem_of_getElem? hy1)
      have hyb2 := HLO.out y2 (List.mem_of_getElem? hy2)
      obtain ⟨z, hzz⟩ : ∃ z, z = w7.drew := ⟨_, rfl⟩
      have hfz : Fr [] w7 z := by rw [hzz]; exact (Fr.refl _ _).drew
      have HMz := Lib.hid (HM5.out.fr hfz)
      have HFz := Lib.hid (HF5.out.trans hfz (by simp))
      have cy1 : z.cell? ⟨bb, oo + k, none⟩ = some (.int .i64 y1) := by rw [hzz]; exact hc k y1 hy1
      have cy2 : z.cell? ⟨bb, oo + (k + 1), none⟩ = some (.int .i64 y2) := by rw [hzz]; exact hc (k + 1) y2 hy2
      have e1 : z.cell? ⟨bn, 0, none⟩ = some (.int .i64 ((k : Int) + 2)) := HMz.out.f.c.cell 0
      have e2 : z.cell? ⟨bo, 0, none⟩ = some (.slice (some ⟨bb, oo, none⟩) lo.length co) := HMz.out.o.cell 0
      have e3 : z.cell? ⟨bm, 0, none⟩ = some (.pointer (some ⟨g, 0, none⟩)) := HMz.out.m.cell 0
      have HZ := Lib.hid hzz
      have i1 : IntKind.i64.wrap ((k : Int) + 2 - 2) = (k : Int) := by rw [show (k : Int) + 2 - 2 = (k : Int) by omega]; exact IntWalk.i64_in _ (by omega)
      have i2 : IntKind.i64.wrap ((k : Int) + 2 - 1) = (k : Int) + 1 := by rw [show (k : Int) + 2 - 1 = (k : Int) + 1 by omega]; exact IntWalk.i64_in _ (by omega)
      have i8 : IntKind.i64.wrap (k : Int) = (k : Int) := IntWalk.i64_in _ (by omega)
      have i9 : IntKind.i64.wrap ((k : Int) + 1) = (k : Int) + 1 := IntWalk.i64_in _ (by omega)
      have i3 : (0 : Int) ≤ (k : Int) := by omega
      have i4 : (k : Int) < (lo.length : Int) := by omega
      have i5 : (0 : Int) ≤ (k : Int) + 1 := by omega
      have i6 : (k : Int) + 1 < (lo.length : Int) := by omega
      have i7 : ((k : Int) + 1).toNat = k + 1 := by omega
      clear hc hy1 hy2 hzz hfz hB3 c1 c2 c3 b1 b2
      go_upto_region 11 with fail
      refine wp_region_still_tail 11 (by kernel_rfl) (by kernel_rfl) ?_
      change wpStill _ _ w7.drew _ _ _
      rw [← HZ.out]
      simp only [List.take_succ_cons, List.take_zero, List.drop_succ_cons, List.drop_zero]
      repeat still_step
      refine wpStill_nil ?_
      change wpList _ _ _ _ _ w7.drew
      rw [← HZ.out]
      go_wp2_with fail
      refine (set_any g gb size F2 y1 y2 z hyb1 hyb2 HMz.out.M HMz.out.O).mono ?_
      rintro e w8 ⟨rfl, hM8, hf8⟩
      have HM8 := Lib.hid (HMz.out.map hf8 hM8)
      have HF8 := Lib.hid (HFz.out.trans hf8 (fun y hy => .inl (by simp at hy; simp [hy])))
      clear hM8 hf8
      go_wp2_with fail
      go_meet
      case rel => exact ⟨_, HM8, HF8⟩
  obtain ⟨F3, HM7, HF7⟩ := hcut
  clear c1 c2 c3 hB3 HM5 HF5
  have c1 : wc.cell? ⟨bg, 0, none⟩ = some (.bool ok2) := HM7.out.f.o.cell 0
  go_wp2_with fail
  go_ret
  exact ⟨ok2, F3, rfl, HM7.out, HF7.out, fun h1 h2 h3 => HOK.out (HST.out h1 h2 h3)⟩
end Go.Proofs.YtheiacfdbhjbmaaDoor
