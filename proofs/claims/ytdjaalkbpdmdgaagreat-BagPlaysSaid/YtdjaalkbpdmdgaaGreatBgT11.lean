/-
  Bag: run, whatever is played.
-/
import Derived.Test.YtdjaalkbpdmdgaaGreatBgT10
namespace Go.Proofs.YtdjaalkbpdmdgaaGreat
open Go.RowKit
set_option linter.unusedVariables false

/-- From this address on lie these steps. -/
def RdB (w : World) (A : Option Addr) (l : List Ob) : Prop :=
  0 < l.length → ∃ b o, A = some ⟨b, o, none⟩ ∧ b < w.heap.size ∧ ∀ i q, l[i]? = some q → w.cell? ⟨b, o + i * 6, none⟩ = some (.int .i64 q.k) ∧ w.cell? ⟨b, o + i * 6 + 1, none⟩ = some (.bool q.s) ∧ w.cell? ⟨b, o + i * 6 + 2, none⟩ = some (.int .i64 q.n) ∧
    w.cell? ⟨b, o + i * 6 + 3, none⟩ = some (.int .u64 q.x) ∧ w.cell? ⟨b, o + i * 6 + 4, none⟩ = some (.string q.str) ∧ w.cell? ⟨b, o + i * 6 + 5, none⟩ = some (.int .i64 q.stop)
theorem RdB.fr {w w' : World} {A : Option Addr} {l : List Ob} (h : RdB w A l) (hf : Fr [] w w') : RdB w' A l := fun h0 => by
  obtain ⟨b, o, e, hb, hc⟩ := h h0
  refine ⟨b, o, e, Nat.lt_of_lt_of_le hb hf.size, fun i q hq => ?_⟩
  have hx := hf.block b hb (by simp)
  obtain ⟨c0, c1, c2, c3, c4, c5⟩ := hc i q hq
  exact ⟨(World.cell?_of_block hx).trans c0, (World.cell?_of_block hx).trans c1, (World.cell?_of_block hx).trans c2, (World.cell?_of_block hx).trans c3, (World.cell?_of_block hx).trans c4, (World.cell?_of_block hx).trans c5⟩
/-- What holds while a script is played on the desk gd. -/
structure Run (w0 : World) (gd : Nat) (low high : Int) (Inv : Nat → World → Prop) : Prop where
  fr : ∀ k z, Inv k z → Fr [] w0 z
  skip : ∀ k z, Inv k z → Inv (k + 1) z
  plays : ∀ (k : Nat) (z : World) (o : Ob), k < 400 → low ≤ o.k → o.k ≤ high → Inv k z → Calls Tryz.prog 11 #[.pointer (some ⟨gd, 0, none⟩), .agg o.V] z fun e z' => e = .returned (.bool true) ∧ Inv (k + 1) z'

set_option maxRecDepth 100000 in
set_option maxHeartbeats 1600000 in
theorem run_any (w0 : World) (one two low high : Int) (orig : Nat → Int) (A : Option Addr) (n c : Nat) (l : List Ob) (hn : n = l.length) (hnn : n ≤ 9223372036854775807) (hr : RdB w0 A l)
    (hbeg : Calls Tryz.prog 10 #[.int .i64 one, .int .i64 two] w0 fun e w' => ∃ gd gm, e = .returned (.tuple #[.pointer (some ⟨gd, 0, none⟩), .bool true]) ∧ BI w0 gd gm orig 2 w')
    (hinv : ∀ gd gm w', BI w0 gd gm orig 2 w' → ∃ Inv : Nat → World → Prop, Inv 0 w' ∧ Run w0 gd low high Inv) :
    Calls Tryz.prog 9 #[.int .i64 one, .int .i64 two, .slice A n c, .int .i64 low, .int .i64 high] w0 fun e w' => e = .returned (.bool true) ∧ Fr [] w0 w' := by
  have HB := Lib.hid hbeg
  have HI := Lib.hid hinv
  have HR := Lib.hid hr
  have HN := Lib.hid hn
  clear hbeg hinv hr hn
  go_enter Tryz.func9, Tryz.ntmps9
  go_wp2_with fail
  refine (Calls.mono HB.out ?_)
  rintro e w1 ⟨gd, gm, rfl, hbi⟩
  obtain ⟨Inv, h0, hrun⟩ := HI.out gd gm w1 hbi
  have H0 := Lib.hid h0
  have HRUN := Lib.hid hrun
  clear hbi h0 hrun
  go_wp2_with fail
  go_loopw [13] (fun j wr => ∃ k : Nat, k ≤ n ∧ k ≤ 400 ∧ j = .int .i64 k ∧ Hid (Inv k wr)) (fun j _ => 400 - (intOf j).toNat)
  case atStart => exact ⟨0, by omega, by omega, rfl, H0.out⟩
  case round =>
    obtain ⟨k, hk, hk4, rfl, HX⟩ := hrel
    by_cases hlt : k < n
    · have d1 : decide ((k : Int) < (n : Int)) = true := decide_eq_true (by omega)
      by_cases h4 : k < 400
      · have d2 : decide ((k : Int) < 400) = true := decide_eq_true (by omega)
        obtain ⟨o, ho⟩ : ∃ o, l[k]? = some o := ⟨_, List.getElem?_eq_getElem (by have := HN.out; omega)⟩
        obtain ⟨sb, so, rfl, hsb, hcell⟩ := (HR.out.fr (HRUN.out.fr k wr HX.out)) (by have := HN.out; omega)
        obtain ⟨c0, c1, c2, c3, c4, c5⟩ := hcell k o ho
        have i0 : (0 : Int) ≤ (k : Int) := by omega
        have i1 : (k : Int) < (n : Int) := by omega
        have HPL : Hid (low ≤ o.k → o.k ≤ high → Calls Tryz.prog 11 #[.pointer (some ⟨gd, 0, none⟩), .agg o.V] wr fun e z' => e = .returned (.bool true) ∧ Inv (k + 1) z') := fun q1 q2 => HRUN.out.plays k wr o h4 q1 q2 HX.out
        have HSK := Lib.hid (HRUN.out.skip k wr HX.out)
        clear hcell ho
        obtain ⟨ok, os, on, ox, ostr, ostop⟩ := o
        by_cases h5 : low ≤ ok
        · have d3 : decide (low ≤ ok) = true := decide_eq_true h5
          by_cases h6 : ok ≤ high
          · have d4 : decide (ok ≤ high) = true := decide_eq_true h6
            have HC := Lib.hid (HPL.out h5 h6)
            unfold Ob.V at HC
            clear HPL
            go_wp2_with fail
            refine (Calls.mono HC.out ?_)
            rintro e w2 ⟨rfl, hx⟩
            have HX2 := Lib.hid hx
            clear hx c0 c1 c2 c3 c4 c5
            go_wp2_with fail
            go_roundw
            case rel => exact ⟨k + 1, by omega, by omega, by go_num, HX2.out⟩
            case measure => simp [intOf]; omega
          · have d4 : decide (ok ≤ high) = false := decide_eq_false h6
            clear HPL
            go_wp2_with fail
            go_roundw
            case rel => exact ⟨k + 1, by omega, by omega, by go_num, HSK.out⟩
            case measure => simp [intOf]; omega
        · have d3 : decide (low ≤ ok) = false := decide_eq_false h5
          clear HPL
          go_wp2_with fail
          go_roundw
          case rel => exact ⟨k + 1, by omega, by omega, by go_num, HSK.out⟩
          case measure => simp [intOf]; omega
      · have d2 : decide ((k : Int) < 400) = false := decide_eq_false (by omega)
        go_wp2_with fail
        go_ret
        exact ⟨rfl, HRUN.out.fr k wr HX.out⟩
    · have d1 : decide ((k : Int) < (n : Int)) = false := decide_eq_false (by omega)
      go_wp2_with fail
      go_ret
      exact ⟨rfl, HRUN.out.fr k wr HX.out⟩

/-- The stacks, while a script is played. -/
theorem run_stack {w0 w : World} {gd gm : Nat} {orig : Nat → Int} (h : BI w0 gd gm orig 2 w) : ∃ Inv : Nat → World → Prop, Inv 0 w ∧ Run w0 gd 1 4 Inv := by
  obtain ⟨pt, Ts, f, m, s1, s2, s3, s4, s5, s6⟩ := h
  refine ⟨fun k z => ∃ LS Ts', (∀ i, i < 2 → (LS i).length ≤ k) ∧ DI w0 gd pt (fun i => moOf (orig i)) LS Ts' z, ⟨fun _ => [], Ts, fun i _ => by simp, s1, s2, ⟨f, s3, fun i hi j hj => (s5 i hi).2 j hj⟩, fun i hi => ?_⟩, ⟨?_, ?_, ?_⟩⟩
  · have h0 := (s5 i hi).1 0 _ rfl
    have h5 := (s5 i hi).1 5 _ rfl
    exact ⟨⟨nilS, h0⟩, nilS, h5⟩
  · rintro k z ⟨LS, T, _, hd⟩
    exact hd.sg.fr
  · rintro k z ⟨LS, T, hl, hd⟩
    exact ⟨LS, T, fun i hi => by have := hl i hi; omega, hd⟩
  · rintro k z o hk h1 h2 ⟨LS, T, hl, hd⟩
    refine (plays_stack hd (fun i hi => by have := hl i hi; omega) o ⟨h1, h2⟩).mono ?_
    rintro e z' ⟨he, i, T', hi, hd'⟩
    refine ⟨he, _, T', fun j hj => ?_, hd'⟩
    unfold updN
    split
    · have := stA_len (moOf (orig i)) (LS i) o
      have := hl i hi
      omega
    · have := hl j hj
      omega
end Go.Proofs.YtdjaalkbpdmdgaaGreat
