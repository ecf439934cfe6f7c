/-
  Bag: wordAll (exact.go): a table gone through twice.
-/
import Derived.Test.YtdjaalkbpdmdgaaGreatBgW7
import Derived.Deep.RegionHeld3
namespace Go.Proofs.YtdjaalkbpdmdgaaGreat
open Go.RowKit Go.Shelf
set_option linter.unusedVariables false

theorem CwN.fr {n₁ b0 gd gr bw bk bd bi bs i u : Nat} {stop : Int} {kv vv : Value} {l r : List PN} {W Z : World} {cs : Array Value} (h : CwN n₁ b0 gd gr bw bk bd bi bs i u stop kv vv l r W) (hD : Bk W gd 52 cs) (hf : Fr [] W Z) : CwN n₁ b0 gd gr bw bk bd bi bs i u stop kv vv l r Z := by
  obtain ⟨v, h1, h2⟩ := h.k
  exact ⟨h.w.fr hf (by simp), ⟨v, h1.fr hf (by simp), h2.fr hf (by simp)⟩, h.d.fr hf (by simp), h.ix.fr hf (by simp), h.s.fr hf (by simp), by rw [(hD.fr hf (by simp)).cell, ← hD.cell]; exact h.c, h.r.fr hf (by simp)⟩
theorem fr_kb {n₀ : Nat} {T : List Nat} {y z Z : World} (h : Fr [] y z) (k : Kb n₀ T z Z) (hn : y.heap.size ≤ n₀) (hT : ∀ x ∈ T, y.heap.size ≤ x) : Fr [] y Z :=
  ⟨k.os.trans h.os, k.tape.trans h.tape, k.output.trans h.output, Nat.le_trans h.size k.size, fun j hj _ => (k.block j (by omega) (Nat.lt_of_lt_of_le hj h.size) (fun hx => by have := hT j hx; omega)).trans (h.block j hj (by simp))⟩

set_option maxRecDepth 100000 in
set_option maxHeartbeats 3200000 in
theorem wordAll_any (b0 gd gs gr i : Nat) (cs : Array Value) (v kv vv : Value) (l r : List PN) (stop : Int) (w : World) (hi : i < 2) (hd : Bk w gd 52 cs) (hc0 : cs[6 + i]? = some (.pointer (some ⟨gs, 0, none⟩))) (hc1 : cs[16 + i]? = some (.pointer (some ⟨gr, 0, none⟩)))
    (hT : TbN b0 w gs v l) (hQ : Rw 71 3 29 b0 w gr kv vv (rkN r) (rvN r)) (hR : Rl l r) (hl : l.length ≤ 100000) :
    Calls Tryz.prog 65 #[.pointer (some ⟨gd, 0, none⟩), .int .i64 stop, .int .i64 i] w fun e w' => e = .returned (.bool true) ∧ Fr [] w w' := by
  obtain ⟨kb, hkb⟩ : ∃ kb, w.heap.size = kb := ⟨_, rfl⟩
  obtain ⟨y, hy⟩ : ∃ y, y = ((w.alloc (.cells #[.pointer (some ⟨gd, 0, none⟩)] 26)).alloc (.cells #[.int .i64 stop] 3)).alloc (.cells #[.int .i64 i] 3) := ⟨_, rfl⟩
  have hfy : Fr [] w y := by rw [hy]; exact (((Fr.refl [] w).alloc _).alloc _).alloc _
  have HY := Lib.hid hy
  have HFY := Lib.hid hfy
  have hyd : Bk y kb 26 #[.pointer (some ⟨gd, 0, none⟩)] := by rw [hy]; exact ((Bk.new_at _ _ _ _ hkb).alloc _).alloc _
  have hys : Bk y (kb + 1) 3 #[.int .i64 stop] := by rw [hy]; exact (Bk.new_at _ _ _ _ (by simp; exact hkb)).alloc _
  have hyi : Bk y (kb + 1 + 1) 3 #[.int .i64 i] := by rw [hy]; exact Bk.new_at _ _ _ _ (by simp; exact hkb)
  have HYD := Lib.hid hyd
  have HYS := Lib.hid hys
  have HYI := Lib.hid hyi
  have HD := Lib.hid (hd.fr hfy (by simp))
  have HTB := Lib.hid (hT.fr hfy (by simp) (by simp))
  have HRW := Lib.hid (hQ.fr hfy (by simp))
  have HR := Lib.hid hR
  have HLL := Lib.hid hl
  have HC0 := Lib.hid hc0
  have HC1 := Lib.hid hc1
  have HAL : Hid (∀ Z, Fr [] y Z → Calls Tryz.prog 92 #[.pointer (some ⟨gs, 0, none⟩)] Z fun e w' => ∃ bm, e = .returned (.func (.func 101) #[] #[.pointer (some ⟨bm, 0, none⟩)]) ∧ Fr [] y w' ∧ Bk w' bm 39 #[.pointer (some ⟨gs, 0, none⟩)]) := fun Z hz => by
    refine (table_all gs Z).mono ?_
    rintro e w' ⟨rfl, rfl⟩
    exact ⟨_, rfl, hz.alloc _, Bk.new _ _ _⟩
  have HLD : Hid (∀ Z, Fr [] y Z → Z.cell? ⟨kb, 0, none⟩ = some (.pointer (some ⟨gd, 0, none⟩)) ∧ Z.cell? ⟨kb + 1 + 1, 0, none⟩ = some (.int .i64 i) ∧ Z.cell? ⟨gd, 6 + i, none⟩ = some (.pointer (some ⟨gs, 0, none⟩)) ∧ Z.cell? ⟨gd, 16 + i, none⟩ = some (.pointer (some ⟨gr, 0, none⟩))) := fun Z hz =>
    ⟨(HYD.out.fr hz (by simp)).cell 0, (HYI.out.fr hz (by simp)).cell 0, by rw [(HD.out.fr hz (by simp)).cell]; exact HC0.out, by rw [(HD.out.fr hz (by simp)).cell]; exact HC1.out⟩
  have HKY : Hid (∀ Z, Fr [] y Z → Calls Tryz.prog 93 #[.pointer (some ⟨gr, 0, none⟩)] Z fun e w' => ∃ v, e = .returned v ∧ Lst w' y.heap.size 3 1 v (keysL l).length (iV (keysL l)) ∧ Fr [] y w' ∧ Fr [] Z w') := fun Z hz => by
    refine (wkeys_any b0 gr kv vv l r Z (HRW.out.fr hz (by simp)) HR.out (by rw [← HR.out.len]; have := HLL.out; omega)).mono ?_
    rintro e w' ⟨v, rfl, h1, h2⟩
    exact ⟨v, rfl, h1.mono hz.size, hz.trans h2 (by simp), h2⟩
  obtain ⟨e0, e1, e2, e3⟩ := HLD.out y (Fr.refl _ _)
  have i0 : (0 : Int) ≤ (i : Int) := by omega
  have i1 : (i : Int) < 2 := by omega
  have hkb0 := hkb
  clear hd hc0 hc1 hT hQ hR hl hfy hyd hys hyi hy
  go_enter Tryz.func65, Tryz.ntmps65
  go_upto_region 1 with fail
  rw [← HY.out]
  go_region_held3 (fun W => W.cell? ⟨kb, 0, none⟩ = some (.pointer (some ⟨gd, 0, none⟩)) ∧ W.cell? ⟨kb + 1 + 1, 0, none⟩ = some (.int .i64 i) ∧ W.cell? ⟨gd, 6 + i, none⟩ = some (.pointer (some ⟨gs, 0, none⟩))) ((first | (obtain ⟨q1, q2, q3, _⟩ := HLD.out _ (Fr.refl [] y).drew; exact ⟨q1, q2, q3⟩) | (obtain ⟨q1, q2, q3, _⟩ := HLD.out _ (by assumption); exact ⟨q1, q2, q3⟩)))
    ((first | (go_at_call 92; refine (HAL.out _ (Fr.refl [] y).drew).mono ?_; rintro en z1 ⟨bm, rfl, hz1, hb1⟩)))
  have HZ1 := Lib.hid hz1
  have HB1 := Lib.hid hb1
  have HSEQ := Lib.hid (table_seq b0 gs bm v l (by have := HLL.out; omega) z1 (HTB.out.fr HZ1.out (by simp) (by simp)) HB1.out)
  have hnf := eql_nilF 140 ⟨_, _, _, Tryz.underlying140⟩ (.func 101) #[] #[.pointer (some ⟨bm, 0, none⟩)] z1
  clear hz1 hb1 e0 e1 e2 e3
  go_upto_region 4 with fail
  clear hnf
  obtain ⟨e0, e1, _, e3⟩ := HLD.out z1 HZ1.out
  have l1 : gd < z1.heap.size := (HD.out.fr HZ1.out (by simp)).lt
  have l2 : kb < z1.heap.size := (HYD.out.fr HZ1.out (by simp)).lt
  have l3 : kb + 1 + 1 < z1.heap.size := (HYI.out.fr HZ1.out (by simp)).lt
  go_cut [8] from 22 to 28 (fun v8 wx => Hid (∃ bk v, v8 = .pointer (some ⟨bk, 0, none⟩) ∧ Bk wx bk 68 #[v] ∧ Lst wx y.heap.size 3 1 v (keysL l).length (iV (keysL l)) ∧ Fr [] z1 wx))
  case first =>
    go_region_with (go_at_call 93; refine (HKY.out _ (by first | exact HZ1.out | exact HZ1.out.trans (Fr.refl [] z1).drew (by simp) | exact HZ1.out.trans ((Fr.refl [] z1).drew.alloc _) (by simp))).mono ?_; rintro en zz ⟨kv2, rfl, hl2, hf2, hf3⟩; obtain ⟨e0, e1, _, e3⟩ := HLD.out _ hf2; obtain ⟨A8, cp8, rfl, _, _⟩ := hl2.look; try (have hb8 : Bk zz z1.heap.size 68 #[.slice none 0 0] := (by first | exact (Bk.new_at _ _ _ _ (by simp)).fr hf3 (by simp) | exact ((Bk.new _ _ _).fr (Fr.refl [] _).drew (by simp)).fr hf3 (by simp)); have c8 := hb8.cell 0; have f8 := hb8.free 0))
    all_goals
      try go_wp2_with fail
      go_meet
      case rel => first | exact Lib.hid ⟨_, _, rfl, Bk.new_at _ _ _ _ rfl, hl2.alloc _, (show Fr [] z1 zz by first | exact (Fr.refl [] z1).drew.trans hf3 (by simp) | exact ((Fr.refl [] z1).alloc _).drew.trans hf3 (by simp)).alloc _⟩ | exact Lib.hid ⟨_, _, rfl, hb8.put 0 _, hl2.fr ((Fr.refl [z1.heap.size] zz).setCell (by simp) _) (fun j hj hx => hl2.ne_bk hb8 (by decide) j hj (by simpa using hx)), (show Fr [] z1 zz by first | exact (Fr.refl [] z1).drew.trans hf3 (by simp) | exact ((Fr.refl [] z1).alloc _).drew.trans hf3 (by simp)).trans ((Fr.refl [z1.heap.size] zz).setCell (by simp) _) (fun x hx => .inr (by have e : x = z1.heap.size := (by simpa using hx); omega))⟩
  case rest =>
    obtain ⟨bk, ksv, rfl, hbk, hkl, hfk1⟩ := hcut.out
    have HZK := Lib.hid hfk1
    have hfk : Fr [] y wc := HZ1.out.trans hfk1 (by simp)
    clear hfk1
    clear hcut e0 e1 e3 l1 l2 l3
    obtain ⟨m, hm⟩ : ∃ m, l.length = m := ⟨_, rfl⟩
    have hkm : (keysL l).length = m := by unfold keysL; rw [List.length_map]; exact hm
    rw [hkm] at hkl
    obtain ⟨A9, cp9, rfl, _, _⟩ := hkl.look
    obtain ⟨uu, huu⟩ : ∃ uu, stopN m stop = uu := ⟨_, rfl⟩
    have HUP : Hid (∀ Z, Calls Tryz.prog 38 #[.int .i64 m, .int .i64 stop] Z fun e w' => e = .returned (.int .i64 (uu : Nat)) ∧ Z = w') := fun Z => by have := upTo_any m stop Z; rw [huu] at this; exact this
    have ck := hbk.cell 0
    have c4 : wc.cell? ⟨kb + 1, 0, none⟩ = some (.int .i64 stop) := (HYS.out.fr hfk (by simp)).cell 0
    obtain ⟨wn, hwn⟩ : ∃ n, wc.heap.size = n := ⟨_, rfl⟩
    have HWN := Lib.hid hwn
    have HKL := Lib.hid hkl
    have HFK := Lib.hid hfk
    have HBK := Lib.hid hbk
    have HM := Lib.hid hm
    have HKM := Lib.hid hkm
    have HUU := Lib.hid huu
    clear hbk hkl hfk hm hkm huu hwn
    go_upto_region 6 with ((go_at_call 38; refine (HUP.out _).mono ?_; rintro en z3 ⟨rfl, rfl⟩))
    rw [HWN.out]
    obtain ⟨xx, hxx⟩ : ∃ x, x = wc.alloc (.cells #[.int .i64 (uu : Nat)] 3) := ⟨_, rfl⟩
    have hfx : Fr [] wc xx := by rw [hxx]; exact (Fr.refl _ _).alloc _
    have hbw : Bk xx wn 3 #[.int .i64 (uu : Nat)] := by rw [hxx]; exact Bk.new_at _ _ _ _ HWN.out
    rw [← hxx]
    have hyx : Fr [] y xx := HFK.out.trans hfx (by simp)
    have hcw : CwN y.heap.size b0 gd gr wn bk kb (kb + 1 + 1) (kb + 1) i uu stop kv vv l r xx := ⟨hbw, ⟨_, HBK.out.fr hfx (by simp), by rw [HKM.out]; exact HKL.out.fr hfx (by simp)⟩, HYD.out.fr hyx (by simp), HYI.out.fr hyx (by simp), HYS.out.fr hyx (by simp), (HLD.out xx hyx).2.2.2, HRW.out.fr hyx (by simp)⟩
    have HCW : Hid (∀ Z, Fr [] xx Z → CwN y.heap.size b0 gd gr wn bk kb (kb + 1 + 1) (kb + 1) i uu stop kv vv l r Z) := fun Z hz => hcw.fr (HD.out.fr hyx (by simp)) hz
    have HYX := Lib.hid hyx
    have HXX : Hid (wn < xx.heap.size ∧ kb < xx.heap.size ∧ kb + 1 + 1 < xx.heap.size) := ⟨hbw.lt, (HYD.out.fr hyx (by simp)).lt, (HYI.out.fr hyx (by simp)).lt⟩
    have HZX : Hid (Fr [] z1 xx) := HZK.out.trans hfx (by simp)
    clear hxx hfx hbw hyx hcw ck c4
    go_wp2_with fail
    go_loopw [10] (fun i wr => ∃ k : Nat, k ≤ 2 ∧ i = .int .i64 k ∧ Hid (Fr [] xx wr)) (fun i _ => 2 - (intOf i).toNat)
    case atStart => exact ⟨0, by omega, rfl, Fr.refl _ _⟩
    case round =>
      obtain ⟨k, hk, rfl, HF⟩ := hrel
      by_cases hlt : k < 2
      · have hlt' : decide ((k : Int) < 2) = true := decide_eq_true (by omega)
        obtain ⟨rn, hrn⟩ : ∃ n, wr.heap.size = n := ⟨_, rfl⟩
        obtain ⟨z, hz⟩ : ∃ z, z = (wr.alloc (.cells #[.int .i64 0] 3)).alloc (.cells #[.bool true] 4) := ⟨_, rfl⟩
        have hfz : Fr [] wr z := by rw [hz]; exact ((Fr.refl _ _).alloc _).alloc _
        have hzn : Bk z rn 3 #[.int .i64 0] := by rw [hz]; exact (Bk.new_at _ _ _ _ hrn).alloc _
        have hzo : Bk z (rn + 1) 4 #[.bool true] := by rw [hz]; exact Bk.new_at _ _ _ _ (by simp; exact hrn)
        have ZN := Lib.hid hzn
        have ZO := Lib.hid hzo
        have ZF : Hid (Fr [] xx z) := HF.out.trans hfz (by simp)
        have hrx : xx.heap.size ≤ rn := by rw [← hrn]; exact HF.out.size
        have hsz : rn + 1 < z.heap.size := hzo.lt
        have ZS : Hid (Hand Tryz.prog 101 #[.pointer (some ⟨bm, 0, none⟩)] l encN z) := (HSEQ.out.sm (Sm.of_fr (HZX.out.trans ZF.out (by simp)) (fun x hx => ⟨HSEQ.out.1 x hx, by simp⟩))).hand
        have HZ := Lib.hid hz
        have HRN := Lib.hid hrn
        have hw9 := HXX.out.1
        have hk9 := HXX.out.2.1
        have hi9 := HXX.out.2.2
        clear hz hfz hzn hzo hrn
        go_upto_region 11 with fail
        rw [HRN.out, ← HZ.out]
        go_wp2_with fail
        refine (ZS.out 94 #[.pointer (some ⟨rn + 1, 0, none⟩), .pointer (some ⟨rn, 0, none⟩), .pointer (some ⟨wn, 0, none⟩), .pointer (some ⟨bk, 0, none⟩), .pointer (some ⟨kb, 0, none⟩), .pointer (some ⟨kb + 1 + 1, 0, none⟩), .pointer (some ⟨kb + 1, 0, none⟩)] (enters_of Tryz.func94 (by kernel_rfl) rfl)
          [rn + 1, rn] (by simp; omega) (fun _ => Aw (rn + 1) rn stop false) (fun _ => Aw (rn + 1) rn stop true) (fun _ _ _ o h => h.alloc o)
          (fun n₀ W h1 h2 h3 => ⟨ZO.out.fr h3 (by simp), ZN.out.fr h3 (by simp), fun _ => by simp; omega, fun h => by cases h⟩)
          (fun n₀ pre x W h1 h2 h3 h4 h5 => wordAll1 n₀ y.heap.size b0 gd gr (rn + 1) rn wn bk kb (kb + 1 + 1) (kb + 1) i uu stop kv vv l r pre x.1 x.2 W HR.out HLL.out h5 h3 (by rw [HM.out]; exact HUU.out) hi (fun Z hZ => HCW.out Z (fr_kb ZF.out (h4.trans (hZ.kb (by simp))) (by have := ZF.out.size; omega) (by simp; omega))) ⟨by omega, by omega, by omega⟩)).mono ?_
        rintro e w3 ⟨rfl, hf3, n₀, hn1, hn2, hu⟩
        obtain ⟨hO3, hN3⟩ := Aw.done hu
        rw [HM.out, HUU.out] at hN3
        have hf4 : Fr [] xx w3 := ZF.out.trans hf3 (by simp; omega)
        have cO := hO3.cell 0
        have cN := hN3.cell 0
        have cW := (HCW.out w3 hf4).w.cell 0
        have q1 : ((uu : Int) != (uu : Int)) = false := by simp
        have HF4 := Lib.hid hf4
        clear hf3 hu hO3 hN3 hf4 hsz hrx hn1 hn2
        go_wp2_with fail
        go_roundw
        case rel => exact ⟨k + 1, by omega, by go_num, HF4.out⟩
        case measure => simp [intOf]; omega
      · obtain rfl : k = 2 := by omega
        go_wp2_with fail
        go_ret
        exact ⟨rfl, (HFY.out.trans HYX.out (by simp)).trans HF.out (by simp)⟩
end Go.Proofs.YtdjaalkbpdmdgaaGreat
