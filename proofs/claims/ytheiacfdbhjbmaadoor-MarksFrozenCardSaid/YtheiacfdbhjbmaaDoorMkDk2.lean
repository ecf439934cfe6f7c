/-
  Marks: the desk's runs.
-/
import Derived.Test.YtheiacfdbhjbmaaDoorMkDk1
namespace Go.Proofs.YtheiacfdbhjbmaaDoor
open Go.RowKit Go.Shelf Mk
set_option linter.unusedVariables false

theorem eqlIn_nilFunc (d : Nat) (fn : Fn) (a b : Array Value) (W : World) : (Op.equalIn (d + 1) 40 (.func fn a b) .nilFunc).run Tryd.prog W = .ok false W := by
  simp [Op.equalIn, run_underlying Tryd.underlying40]
theorem eql_nilFunc (fn : Fn) (a b : Array Value) (W : World) : (binOp .eql 40 (.func fn a b) .nilFunc).run Tryd.prog W = .ok (.bool false) W := by
  simp only [binOp]
  simp [Op.equal, Op.maxDepth, eqlIn_nilFunc 9999]

def DV (bo bk bw ba bn bs want : Nat) (vA vN : Value) (stop : Int) (q : Nat) (lA lN : List Value) (n₀ : Nat) (W : World) : Prop :=
  ∃ okb kv, LitC W bo bk bw ba bn bs okb kv want vA vN stop q lA lN ∧ (okb = true → 0 ≤ kv ∧ kv ≤ want)
def DU (bo bk : Nat) (stop : Int) (n₀ i : Nat) (W : World) : Prop := Bk W bo 4 #[.bool true] ∧ Bk W bk 3 #[.int .i64 i] ∧ (1 ≤ stop → (i : Int) < stop)
def DX (bo bk : Nat) (stop : Int) (n₀ i : Nat) (W : World) : Prop := Bk W bo 4 #[.bool true] ∧ Bk W bk 3 #[.int .i64 i] ∧ (i : Int) = stop ∧ 1 ≤ i

theorem bk_same {W : World} {b : Nat} {t : TypeId} {u v : Value} (h : Bk W b t #[u]) (h' : Bk W b t #[v]) : u = v := by
  have h1 := h.cell 0
  have h2 := h'.cell 0
  rw [h1] at h2
  simpa using h2

/-- How many are wanted. -/
def wantN (q : Nat) (stop : Int) : Nat := if 1 ≤ stop ∧ stop < q then stop.toNat else q

theorem runs_both (g gb size bm bo bk bw ba bn bs : Nat) (F : Nat → Bool) (vA vN : Value) (stop : Int) (q : Nat) (z : World) (hM : MapIs z g gb size F) (hO : On z) (hbm : z.cell? ⟨bm, 0, none⟩ = some (.pointer (some ⟨g, 0, none⟩)))
    (hL : LitC z bo bk bw ba bn bs true 0 (wantN q stop) vA vN stop q (rlA F size) (rlN F size)) (hq : q = (rl F size).length) (hq2 : q ≤ 1048576) (hg : g ≠ bo ∧ g ≠ bk) (hm : bm ≠ bo ∧ bm ≠ bk) :
    Calls Tryd.prog 38 #[.func (.func 58) #[] #[.pointer (some ⟨bo, 0, none⟩), .pointer (some ⟨bk, 0, none⟩), .pointer (some ⟨bw, 0, none⟩), .pointer (some ⟨ba, 0, none⟩), .pointer (some ⟨bn, 0, none⟩), .pointer (some ⟨bs, 0, none⟩)], .pointer (some ⟨bm, 0, none⟩)] z
      fun e W' => e = .returned (.tuple #[]) ∧ Fr [bo, bk] z W' ∧ LitC W' bo bk bw ba bn bs true (wantN q stop) (wantN q stop) vA vN stop q (rlA F size) (rlN F size) := by
  have hlen : (begs F size).length = q := by rw [hq, rl_begs, List.length_map]
  have hwq : wantN q stop ≤ q := by unfold wantN; split <;> omega
  refine (runs1_any g gb bm 58 size _ F z hM hO hbm [bo, bk] ?_ ?_ ?_ (enters_of Tryd.func58 (by kernel_rfl) rfl)
    (DV bo bk bw ba bn bs (wantN q stop) vA vN stop q (rlA F size) (rlN F size)) (DU bo bk stop) (DX bo bk stop) ?_ ?_ ?_ ?_ ?_ ?_).mono ?_
  · intro x hx
    simp only [List.mem_cons, List.not_mem_nil, or_false] at hx
    rcases hx with rfl | rfl
    · exact hL.o.lt
    · exact hL.k.lt
  · simp [hg.1, hg.2]
  · simp [hm.1, hm.2]
  · rintro n₀ s A B row ⟨okb, kv, h1, h2⟩ hg hr
    exact ⟨okb, kv, h1.kept hg hr, h2⟩
  · rintro n₀ i A B row ⟨h1, h2, h3⟩ hg hr
    exact ⟨bk_kept h1 hg hr, bk_kept h2 hg hr, h3⟩
  · rintro n₀ i A B row ⟨h1, h2, h3⟩ hg hr
    exact ⟨bk_kept h1 hg hr, bk_kept h2 hg hr, h3⟩
  · intro n₀ W hn hf
    exact ⟨true, 0, hL.fr hf, fun _ => by omega⟩
  · intro n₀ W hn hf
    have h := hL.fr hf
    exact ⟨h.o, h.k, fun h => by omega⟩
  · rintro n₀ x W hn hx hf ⟨okb, kv, h1, h2⟩
    refine (lit_any (rl F size) bo bk bw ba bn bs okb kv (wantN q stop) vA vN stop q (rlA F size) (rlN F size) x (endN F size x - x) W h1 h2 hwq (by omega) hq rfl rfl).mono ?_
    rintro e W' ⟨ok', kv', rfl, hL', hfr, hk', hi⟩
    have hlt : ∀ y ∈ [bo, bk], y < n₀ := by
      intro y hy
      simp only [List.mem_cons, List.not_mem_nil, or_false] at hy
      have a1 := hL.o.lt
      have a2 := hL.k.lt
      rcases hy with rfl | rfl <;> omega
    refine ⟨_, rfl, ⟨ok', kv', hL', hk'⟩, hfr.kb (fun y hy => .inl hy), hfr.from hlt, fun i hbi hu => ?_⟩
    obtain ⟨u1, u2, u3⟩ := hu
    have e1 : okb = true := by have := bk_same h1.o u1; simpa using this
    have e2 : kv = i := by have := bk_same h1.k u2; simpa using this
    have hiq : i < q := by rw [← hlen]; exact (List.getElem?_eq_some_iff.1 hbi).1
    have hiw : i < wantN q stop := by unfold wantN; split <;> omega
    have hLi : (rl F size)[i]? = some (x, endN F size x - x) := by rw [rl_begs, List.getElem?_map, hbi]; rfl
    obtain ⟨k1, k2⟩ := hi i e1 e2 hiw hLi
    subst k1
    rw [k2] at hL'
    refine ⟨fun hb => ⟨hL'.o, hL'.k, fun hs => ?_⟩, fun hb => ⟨hL'.o, hL'.k, ?_, by omega⟩⟩
    · have := u3 hs
      rw [k2] at hb
      simp at hb
      omega
    · rw [k2] at hb
      simpa using hb
  · rintro e W' ⟨rfl, hkb, n₀, hn, ⟨okb, kv, h1, h2⟩, hu⟩
    refine ⟨rfl, hkb.fr, ?_⟩
    rcases hu with ⟨u1, u2, u3⟩ | ⟨i, hi, u1, u2, u3, u4⟩
    · have e1 : okb = true := by have := bk_same h1.o u1; simpa using this
      have e2 : kv = (begs F size).length := by have := bk_same h1.k u2; simpa using this
      have e3 : kv = (wantN q stop : Nat) := by
        rw [e2, hlen]
        unfold wantN
        rw [if_neg (by rw [hlen] at u3; omega)]
      rw [e1, e3] at h1
      exact h1
    · have e1 : okb = true := by have := bk_same h1.o u1; simpa using this
      have e2 : kv = i := by have := bk_same h1.k u2; simpa using this
      have e3 : kv = (wantN q stop : Nat) := by
        rw [e2]
        unfold wantN
        split <;> omega
      rw [e1, e3] at h1
      exact h1

set_option maxRecDepth 100000 in
set_option maxHeartbeats 1600000 in
theorem desk_runs (d g gb r rb size : Nat) (F : Nat → Bool) (sv tv : Value) (stop : Int) (w : World) (hB : Bk w d 81 #[.pointer (some ⟨g, 0, none⟩), .pointer (some ⟨r, 0, none⟩), sv, tv])
    (hM : MapIs w g gb size F) (hR : RefM w r rb size F) (hO : On w) :
    Calls Tryd.prog 53 #[.pointer (some ⟨d, 0, none⟩), .int .i64 stop] w fun e w' => e = .returned (.bool true) ∧ Fr [] w w' := by
  obtain ⟨wa, hwa⟩ : ∃ wa, wa = w.alloc (.cells #[.int .i64 stop] 3) := ⟨_, rfl⟩
  have hfa : Fr [] w wa := by rw [hwa]; exact (Fr.refl _ _).alloc _
  have hsa : Bk wa w.heap.size 3 #[.int .i64 stop] := by rw [hwa]; exact Bk.new _ _ _
  have c1 : wa.cell? ⟨d, 1, none⟩ = some (.pointer (some ⟨r, 0, none⟩)) := (hB.fr hfa (by simp)).cell 1
  have hgl := hM.B.lt
  have HB := Lib.hid hB
  have HM := Lib.hid hM
  have HR := Lib.hid hR
  have HO := Lib.hid hO
  have HFA := Lib.hid hfa
  have HS := Lib.hid hsa
  have HWA := Lib.hid hwa
  clear hB hM hR hO hfa hsa hwa
  go_enter Tryd.func53, Tryd.ntmps53
  go_upto_region 1 with fail
  rw [← HWA.out]
  go_wp2_with fail
  refine (rruns_any r rb size F wa (HR.out.fr HFA.out (by simp) (by simp))).mono ?_
  rintro e w2 ⟨vA, vN, q, rfl, hq, hA, hN, hf2⟩
  have HQ := Lib.hid hq
  have HA := Lib.hid hA
  have HN := Lib.hid hN
  have HF2 := Lib.hid (HFA.out.trans hf2 (by simp))
  have HS2 := Lib.hid (HS.out.fr hf2 (by simp))
  have hqm : q ≤ 1048576 := by
    have h1 := rl_len F size
    have h2 := HM.out.most
    omega
  obtain ⟨Aa, capa, rfl, _, _⟩ := hA.look
  obtain ⟨An, capn, rfl, _, _⟩ := hN.look
  clear hq hA hN hf2 c1 HS
  go_upto_region 3 with fail
  obtain ⟨w3, hw3⟩ : ∃ w3, w3 = (((w2.alloc (Obj.cells #[Value.slice Aa q capa] 22)).alloc (Obj.cells #[Value.slice An q capn] 22)).alloc (Obj.cells #[Value.int IntKind.i64 ↑q] 3)) := ⟨_, rfl⟩
  have hf3 : Fr [] w2 w3 := by rw [hw3]; exact (((Fr.refl _ _).alloc _).alloc _).alloc _
  have HBA : Hid (Bk w3 w2.heap.size 22 #[Value.slice Aa q capa]) := by rw [hw3]; exact ((Bk.new _ _ _).alloc _).alloc _
  have HBN : Hid (Bk w3 (w2.heap.size + 1) 22 #[Value.slice An q capn]) := by rw [hw3]; exact (Bk.new_at _ _ _ _ (by simp)).alloc _
  have hbw : Bk w3 (w2.heap.size + 1 + 1) 3 #[Value.int IntKind.i64 ↑q] := by rw [hw3]; exact Bk.new_at _ _ _ _ (by simp)
  have HF3 := Lib.hid (HF2.out.trans hf3 (by simp))
  have HA3 := Lib.hid (HA.out.fr hf3 (by simp))
  have HN3 := Lib.hid (HN.out.fr hf3 (by simp))
  have hs3 := HS2.out.fr hf3 (by simp)
  rw [← hw3]
  have q1 := HF2.out.size
  have q2 := HS2.out.lt
  have q3 := hbw.lt
  have HBW := Lib.hid hbw
  have HS3 := Lib.hid hs3
  have e1 : w3.cell? ⟨w.heap.size, 0, none⟩ = some (.int .i64 stop) := hs3.cell 0
  have e2 : w3.cell? ⟨w2.heap.size + 1 + 1, 0, none⟩ = some (.int .i64 q) := hbw.cell 0
  have e3 := hbw.free 0
  clear hw3 hf3 hbw hs3 HF2 HS2
  by_cases hst : 1 ≤ stop ∧ stop < q
  · obtain ⟨s1, s2⟩ := hst
    have HW4 : Hid (Bk (w3.setCell ⟨w2.heap.size + 1 + 1, 0, none⟩ (.int .i64 stop)) (w2.heap.size + 1 + 1) 3 #[.int .i64 (wantN q stop : Nat)]) := by
      have : ((wantN q stop : Nat) : Int) = stop := by unfold wantN; rw [if_pos ⟨s1, s2⟩]; omega
      rw [this]
      exact HBW.out.put 0 _
    have HF4 : Hid (Fr [w2.heap.size + 1 + 1] w3 (w3.setCell ⟨w2.heap.size + 1 + 1, 0, none⟩ (.int .i64 stop))) := (Fr.refl _ _).setCell (by simp) _
    go_upto_region 5 with fail
    generalize w3.setCell ⟨w2.heap.size + 1 + 1, 0, none⟩ (.int .i64 stop) = w4 at *
    clear e1 e2 e3
    have hsz3 := HF4.out.size
    have HA4 : Hid (Lst w4 wa.heap.size 3 1 (Value.slice Aa q capa) q (rlA F size)) := HA3.out.fr HF4.out (fun j hj hx => by have h1 := (HA.out.lt j hj).2; simp at hx; omega)
    have HN4 : Hid (Lst w4 wa.heap.size 3 1 (Value.slice An q capn) q (rlN F size)) := HN3.out.fr HF4.out (fun j hj hx => by have h1 := (HN.out.lt j hj).2; simp at hx; omega)
    have HBA4 : Hid (Bk w4 w2.heap.size 22 #[Value.slice Aa q capa]) := HBA.out.fr HF4.out (by simp; omega)
    have HBN4 : Hid (Bk w4 (w2.heap.size + 1) 22 #[Value.slice An q capn]) := HBN.out.fr HF4.out (by simp)
    have HS4 : Hid (Bk w4 w.heap.size 3 #[.int .i64 stop]) := HS3.out.fr HF4.out (by simp; omega)
    have HFF : Hid (Fr [] w w4) := HF3.out.trans HF4.out (fun x hx => .inr (by simp at hx; omega))
    have HM4 := Lib.hid (HM.out.fr HFF.out (by simp) (by simp))
    have HO4 := Lib.hid (HO.out.fr HFF.out (by simp))
    have c0 : w4.cell? ⟨d, 0, none⟩ = some (.pointer (some ⟨g, 0, none⟩)) := (HB.out.fr HFF.out (by simp)).cell 0
    clear HA3 HN3 HBA HBN HS3 HF3 HF4 HBW
    go_wp2_with fail
    refine (runs_any g w4).mono ?_
    rintro e w5 ⟨rfl, hw5⟩
    have hf5 : Fr [] w4 w5 := by rw [hw5]; exact (Fr.refl _ _).alloc _
    have HBM : Hid (Bk w5 w4.heap.size 24 #[.pointer (some ⟨g, 0, none⟩)]) := by rw [hw5]; exact Bk.new _ _ _
    have HA5 := Lib.hid (HA4.out.fr hf5 (by simp))
    have HN5 := Lib.hid (HN4.out.fr hf5 (by simp))
    have HBA5 := Lib.hid (HBA4.out.fr hf5 (by simp))
    have HBN5 := Lib.hid (HBN4.out.fr hf5 (by simp))
    have HS5 := Lib.hid (HS4.out.fr hf5 (by simp))
    have HW5 := Lib.hid (HW4.out.fr hf5 (by simp))
    have HF5 := Lib.hid (HFF.out.trans hf5 (by simp))
    have HM5 := Lib.hid (HM4.out.fr hf5 (by simp) (by simp))
    have HO5 := Lib.hid (HO4.out.fr hf5 (by simp))
    have q5 := hf5.size
    clear hw5 hf5 c0 HA4 HN4 HBA4 HBN4 HS4 HW4 HFF HM4 HO4
    have hnf := eql_nilFunc (.func 38) #[] #[.pointer (some ⟨w4.heap.size, 0, none⟩)] w5
    go_upto_region 9 with fail
    clear hnf
    go_loopw [9] (fun i wr => ∃ k : Nat, k ≤ 2 ∧ i = .int .i64 k ∧ Hid (Fr [] w5 wr)) (fun i _ => 2 - (intOf i).toNat)
    case atStart => exact ⟨0, by omega, rfl, Fr.refl _ _⟩
    case round =>
      obtain ⟨k, hk, rfl, HW⟩ := hrel
      by_cases hlt : k < 2
      · have hlt' : decide ((k : Int) < 2) = true := decide_eq_true (by omega)
        obtain ⟨z, hz⟩ : ∃ z, z = (wr.alloc (.cells #[.int .i64 0] 3)).alloc (.cells #[.bool true] 4) := ⟨_, rfl⟩
        have hfz : Fr [] wr z := by rw [hz]; exact ((Fr.refl _ _).alloc _).alloc _
        have hfz5 : Fr [] w5 z := HW.out.trans hfz (by simp)
        have hbk : Bk z wr.heap.size 3 #[.int .i64 0] := by rw [hz]; exact (Bk.new _ _ _).alloc _
        have hbo : Bk z (wr.heap.size + 1) 4 #[.bool true] := by rw [hz]; exact Bk.new_at _ _ _ _ (by simp)
        have hsz := HW.out.size
        have q6 := HBM.out.lt
        have hL : LitC z (wr.heap.size + 1) wr.heap.size (w2.heap.size + 1 + 1) w2.heap.size (w2.heap.size + 1) w.heap.size true 0 (wantN q stop) (Value.slice Aa q capa) (Value.slice An q capn) stop q (rlA F size) (rlN F size) :=
          ⟨hbo, hbk, HW5.out.fr hfz5 (by simp), HBA5.out.fr hfz5 (by simp), HBN5.out.fr hfz5 (by simp), HS5.out.fr hfz5 (by simp), (HA5.out.fr hfz5 (by simp)).mono (Nat.zero_le _), (HN5.out.fr hfz5 (by simp)).mono (Nat.zero_le _), by omega, by omega,
            fun j hj => by have h1 := (HA5.out.lt j hj).2; omega, fun j hj => by have h1 := (HN5.out.lt j hj).2; omega, by omega⟩
        have hgw : g < w5.heap.size := Nat.lt_of_lt_of_le hgl HF5.out.size
        have HRB := Lib.hid (runs_both g gb size w4.heap.size (wr.heap.size + 1) wr.heap.size (w2.heap.size + 1 + 1) w2.heap.size (w2.heap.size + 1) w.heap.size F (Value.slice Aa q capa) (Value.slice An q capn) stop q z (HM5.out.fr hfz5 (by simp) (by simp)) (HO5.out.fr hfz5 (by simp)) ((HBM.out.fr hfz5 (by simp)).cell 0) hL HQ.out hqm (by omega) (by omega))
        have HFZ := Lib.hid hfz
        have HZ := Lib.hid hz
        clear hz hfz hfz5 hbk hbo hL
        go_upto_region 13 with fail
        rw [← HZ.out]
        go_wp2_with fail
        refine (Calls.mono HRB.out ?_)
        rintro e w7 ⟨rfl, hf7, hL7⟩
        have HF7 : Hid (Fr [] w5 w7) := HW.out.trans (HFZ.out.trans hf7 (fun x hx => .inr (by simp at hx; omega))) (by simp)
        have d1 : w7.cell? ⟨wr.heap.size + 1, 0, none⟩ = some (.bool true) := hL7.o.cell 0
        have d2 : w7.cell? ⟨wr.heap.size, 0, none⟩ = some (.int .i64 (wantN q stop : Nat)) := hL7.k.cell 0
        have d3 : w7.cell? ⟨w2.heap.size + 1 + 1, 0, none⟩ = some (.int .i64 (wantN q stop : Nat)) := hL7.w.cell 0
        have d4 : (((wantN q stop : Nat) : Int) != ((wantN q stop : Nat) : Int)) = false := by simp
        generalize wantN q stop = wn at *
        clear hf7 hL7
        go_wp2_with fail
        go_roundw
        case rel => exact ⟨k + 1, by omega, by go_num, HF7.out⟩
        case measure => simp [intOf]; omega
      · obtain rfl : k = 2 := by omega
        go_wp2_with fail
        go_ret
        exact ⟨rfl, HF5.out.trans HW.out (by simp)⟩
  · have HW4 : Hid (Bk w3 (w2.heap.size + 1 + 1) 3 #[.int .i64 (wantN q stop : Nat)]) := by
      have : wantN q stop = q := by unfold wantN; rw [if_neg hst]
      rw [this]
      exact HBW.out
    have HF4 : Hid (Fr [w2.heap.size + 1 + 1] w3 w3) := Fr.refl _ _
    go_upto_region 3 with fail
    go_cut [28] (fun v wx => v = .bool false ∧ w3 = wx)
    case first =>
      go_wp2_with fail
      all_goals
        go_meet
        case rel => exact ⟨congrArg Value.bool (by first | rfl | (simp; omega) | (exfalso; omega)), rfl⟩
    obtain ⟨rfl, rfl⟩ := hcut
    go_upto_region 5 with fail
    obtain ⟨w4, hw4⟩ : ∃ w4, w4 = w3 := ⟨_, rfl⟩
    have HW4 : Hid (Bk w4 (w2.heap.size + 1 + 1) 3 #[.int .i64 (wantN q stop : Nat)]) := by rw [hw4]; exact HW4.out
    have HF4 : Hid (Fr [w2.heap.size + 1 + 1] w3 w4) := by rw [hw4]; exact HF4.out
    rw [← hw4]
    clear hw4
    clear e1 e2 e3
    have hsz3 := HF4.out.size
    have HA4 : Hid (Lst w4 wa.heap.size 3 1 (Value.slice Aa q capa) q (rlA F size)) := HA3.out.fr HF4.out (fun j hj hx => by have h1 := (HA.out.lt j hj).2; simp at hx; omega)
    have HN4 : Hid (Lst w4 wa.heap.size 3 1 (Value.slice An q capn) q (rlN F size)) := HN3.out.fr HF4.out (fun j hj hx => by have h1 := (HN.out.lt j hj).2; simp at hx; omega)
    have HBA4 : Hid (Bk w4 w2.heap.size 22 #[Value.slice Aa q capa]) := HBA.out.fr HF4.out (by simp; omega)
    have HBN4 : Hid (Bk w4 (w2.heap.size + 1) 22 #[Value.slice An q capn]) := HBN.out.fr HF4.out (by simp)
    have HS4 : Hid (Bk w4 w.heap.size 3 #[.int .i64 stop]) := HS3.out.fr HF4.out (by simp; omega)
    have HFF : Hid (Fr [] w w4) := HF3.out.trans HF4.out (fun x hx => .inr (by simp at hx; omega))
    have HM4 := Lib.hid (HM.out.fr HFF.out (by simp) (by simp))
    have HO4 := Lib.hid (HO.out.fr HFF.out (by simp))
    have c0 : w4.cell? ⟨d, 0, none⟩ = some (.pointer (some ⟨g, 0, none⟩)) := (HB.out.fr HFF.out (by simp)).cell 0
    clear HA3 HN3 HBA HBN HS3 HF3 HF4 HBW
    go_wp2_with fail
    refine (runs_any g w4).mono ?_
    rintro e w5 ⟨rfl, hw5⟩
    have hf5 : Fr [] w4 w5 := by rw [hw5]; exact (Fr.refl _ _).alloc _
    have HBM : Hid (Bk w5 w4.heap.size 24 #[.pointer (some ⟨g, 0, none⟩)]) := by rw [hw5]; exact Bk.new _ _ _
    have HA5 := Lib.hid (HA4.out.fr hf5 (by simp))
    have HN5 := Lib.hid (HN4.out.fr hf5 (by simp))
    have HBA5 := Lib.hid (HBA4.out.fr hf5 (by simp))
    have HBN5 := Lib.hid (HBN4.out.fr hf5 (by simp))
    have HS5 := Lib.hid (HS4.out.fr hf5 (by simp))
    have HW5 := Lib.hid (HW4.out.fr hf5 (by simp))
    have HF5 := Lib.hid (HFF.out.trans hf5 (by simp))
    have HM5 := Lib.hid (HM4.out.fr hf5 (by simp) (by simp))
    have HO5 := Lib.hid (HO4.out.fr hf5 (by simp))
    have q5 := hf5.size
    clear hw5 hf5 c0 HA4 HN4 HBA4 HBN4 HS4 HW4 HFF HM4 HO4
    have hnf := eql_nilFunc (.func 38) #[] #[.pointer (some ⟨w4.heap.size, 0, none⟩)] w5
    go_upto_region 9 with fail
    clear hnf
    go_loopw [9] (fun i wr => ∃ k : Nat, k ≤ 2 ∧ i = .int .i64 k ∧ Hid (Fr [] w5 wr)) (fun i _ => 2 - (intOf i).toNat)
    case atStart => exact ⟨0, by omega, rfl, Fr.refl _ _⟩
    case round =>
      obtain ⟨k, hk, rfl, HW⟩ := hrel
      by_cases hlt : k < 2
      · have hlt' : decide ((k : Int) < 2) = true := decide_eq_true (by omega)
        obtain ⟨z, hz⟩ : ∃ z, z = (wr.alloc (.cells #[.int .i64 0] 3)).alloc (.cells #[.bool true] 4) := ⟨_, rfl⟩
        have hfz : Fr [] wr z := by rw [hz]; exact ((Fr.refl _ _).alloc _).alloc _
        have hfz5 : Fr [] w5 z := HW.out.trans hfz (by simp)
        have hbk : Bk z wr.heap.size 3 #[.int .i64 0] := by rw [hz]; exact (Bk.new _ _ _).alloc _
        have hbo : Bk z (wr.heap.size + 1) 4 #[.bool true] := by rw [hz]; exact Bk.new_at _ _ _ _ (by simp)
        have hsz := HW.out.size
        have q6 := HBM.out.lt
        have hL : LitC z (wr.heap.size + 1) wr.heap.size (w2.heap.size + 1 + 1) w2.heap.size (w2.heap.size + 1) w.heap.size true 0 (wantN q stop) (Value.slice Aa q capa) (Value.slice An q capn) stop q (rlA F size) (rlN F size) :=
          ⟨hbo, hbk, HW5.out.fr hfz5 (by simp), HBA5.out.fr hfz5 (by simp), HBN5.out.fr hfz5 (by simp), HS5.out.fr hfz5 (by simp), (HA5.out.fr hfz5 (by simp)).mono (Nat.zero_le _), (HN5.out.fr hfz5 (by simp)).mono (Nat.zero_le _), by omega, by omega,
            fun j hj => by have h1 := (HA5.out.lt j hj).2; omega, fun j hj => by have h1 := (HN5.out.lt j hj).2; omega, by omega⟩
        have hgw : g < w5.heap.size := Nat.lt_of_lt_of_le hgl HF5.out.size
        have HRB := Lib.hid (runs_both g gb size w4.heap.size (wr.heap.size + 1) wr.heap.size (w2.heap.size + 1 + 1) w2.heap.size (w2.heap.size + 1) w.heap.size F (Value.slice Aa q capa) (Value.slice An q capn) stop q z (HM5.out.fr hfz5 (by simp) (by simp)) (HO5.out.fr hfz5 (by simp)) ((HBM.out.fr hfz5 (by simp)).cell 0) hL HQ.out hqm (by omega) (by omega))
        have HFZ := Lib.hid hfz
        have HZ := Lib.hid hz
        clear hz hfz hfz5 hbk hbo hL
        go_upto_region 13 with fail
        rw [← HZ.out]
        go_wp2_with fail
        refine (Calls.mono HRB.out ?_)
        rintro e w7 ⟨rfl, hf7, hL7⟩
        have HF7 : Hid (Fr [] w5 w7) := HW.out.trans (HFZ.out.trans hf7 (fun x hx => .inr (by simp at hx; omega))) (by simp)
        have d1 : w7.cell? ⟨wr.heap.size + 1, 0, none⟩ = some (.bool true) := hL7.o.cell 0
        have d2 : w7.cell? ⟨wr.heap.size, 0, none⟩ = some (.int .i64 (wantN q stop : Nat)) := hL7.k.cell 0
        have d3 : w7.cell? ⟨w2.heap.size + 1 + 1, 0, none⟩ = some (.int .i64 (wantN q stop : Nat)) := hL7.w.cell 0
        have d4 : (((wantN q stop : Nat) : Int) != ((wantN q stop : Nat) : Int)) = false := by simp
        generalize wantN q stop = wn at *
        clear hf7 hL7
        go_wp2_with fail
        go_roundw
        case rel => exact ⟨k + 1, by omega, by go_num, HF7.out⟩
        case measure => simp [intOf]; omega
      · obtain rfl : k = 2 := by omega
        go_wp2_with fail
        go_ret
        exact ⟨rfl, HF5.out.trans HW.out (by simp)⟩
end Go.Proofs.YtheiacfdbhjbmaaDoor
