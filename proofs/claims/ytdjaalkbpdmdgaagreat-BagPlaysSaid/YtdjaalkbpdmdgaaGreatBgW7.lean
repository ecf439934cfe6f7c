/-
  Bag: the closure of wordAll (exact.go).
-/
import Derived.Test.YtdjaalkbpdmdgaaGreatBgW6
import Derived.Test.YtdjaalkbpdmdgaaGreatBg15
namespace Go.Proofs.YtdjaalkbpdmdgaaGreat
open Go.RowKit Go.Shelf
set_option linter.unusedVariables false

/-- How far a table has been gone through. -/
structure Aw {α : Type} (bo bn : Nat) (stop : Int) (ended : Bool) (pre : List α) (W : World) : Prop where
  O : Bk W bo 4 #[.bool true]
  N : Bk W bn 3 #[.int .i64 (pre.length : Nat)]
  g : ended = false → stop < 1 ∨ (pre.length : Int) < stop
  x : ended = true → (pre.length : Int) = stop ∧ 0 < pre.length
theorem Aw.alloc {α : Type} {bo bn : Nat} {stop : Int} {ended : Bool} {pre : List α} {W : World} (h : Aw bo bn stop ended pre W) (o : Obj) : Aw bo bn stop ended pre (W.alloc o) := ⟨h.O.alloc o, h.N.alloc o, h.g, h.x⟩
theorem Aw.done {α : Type} {bo bn : Nat} {stop : Int} {L : List α} {W : World} (h : Aw bo bn stop false L W ∨ ∃ pre, pre <+: L ∧ Aw bo bn stop true pre W) : Bk W bo 4 #[.bool true] ∧ Bk W bn 3 #[.int .i64 (stopN L.length stop : Nat)] := by
  rcases h with h | ⟨pre, hp, h⟩
  · have e : stopN L.length stop = L.length := by
      have := h.g rfl
      unfold stopN
      split <;> omega
    rw [e]
    exact ⟨h.O, h.N⟩
  · have e : stopN L.length stop = pre.length := by
      have := h.x rfl
      have := hp.length_le
      unfold stopN
      split <;> omega
    rw [e]
    exact ⟨h.O, h.N⟩
/-- What the closure reads. -/
structure CwN (n₁ b0 gd gr bw bk bd bi bs i u : Nat) (stop : Int) (kv vv : Value) (l r : List PN) (W : World) : Prop where
  w : Bk W bw 3 #[.int .i64 (u : Nat)]
  k : ∃ v, Bk W bk 68 #[v] ∧ Lst W n₁ 3 1 v (keysL l).length (iV (keysL l))
  d : Bk W bd 26 #[.pointer (some ⟨gd, 0, none⟩)]
  ix : Bk W bi 3 #[.int .i64 (i : Nat)]
  s : Bk W bs 3 #[.int .i64 stop]
  c : W.cell? ⟨gd, 16 + i, none⟩ = some (.pointer (some ⟨gr, 0, none⟩))
  r : Rw 71 3 29 b0 W gr kv vv (rkN r) (rvN r)
set_option maxRecDepth 100000 in
set_option maxHeartbeats 1600000 in
theorem wordAll1 (n₀ n₁ b0 gd gr bo bn bw bk bd bi bs i u : Nat) (stop : Int) (kv vv : Value) (l r : List PN) (pre : List PN) (xk : Int) (xv : Int) (W : World) (hR : Rl l r) (hl : l.length ≤ 100000) (hA : Aw bo bn stop false pre W) (hp : pre ++ [(xk, xv)] <+: l) (hu : stopN l.length stop = u) (hi : i < 2)
    (hC : ∀ Z, Fr [bo, bn] W Z → CwN n₁ b0 gd gr bw bk bd bi bs i u stop kv vv l r Z) (hnn : bw ≠ bn ∧ bi ≠ bn ∧ bs ≠ bn) :
    Calls Tryz.prog 94 #[.int .i64 xk, .int .u64 xv, .pointer (some ⟨bo, 0, none⟩), .pointer (some ⟨bn, 0, none⟩), .pointer (some ⟨bw, 0, none⟩), .pointer (some ⟨bk, 0, none⟩), .pointer (some ⟨bd, 0, none⟩), .pointer (some ⟨bi, 0, none⟩), .pointer (some ⟨bs, 0, none⟩)] W
      (Usr n₀ [bo, bn] (Aw bo bn stop false) (Aw bo bn stop true) pre (xk, xv) W) := by
  have hc := hC W (Fr.refl _ _)
  obtain ⟨ksv, hK, hKL⟩ := hc.k
  obtain ⟨m, hm⟩ : ∃ m, l.length = m := ⟨_, rfl⟩
  have hkm : (keysL l).length = m := by unfold keysL; rw [List.length_map]; exact hm
  rw [hkm] at hKL
  obtain ⟨p, hpp⟩ : ∃ p, pre.length = p := ⟨_, rfl⟩
  have hlp : l[p]? = some (xk, xv) := by
    obtain ⟨t, rfl⟩ := hp
    rw [List.append_assoc, List.getElem?_append_right (by omega), hpp, Nat.sub_self]
    rfl
  have hpm : p < m := by rw [← hm]; exact (List.getElem?_eq_some_iff.1 hlp).1
  have hg : stop < 1 ∨ (p : Int) < stop := by have := hA.g rfl; rw [hpp] at this; exact this
  have hpu : p < u := by
    rw [← hu, hm]
    unfold stopN
    split <;> omega
  have hum : u ≤ m := by rw [← hu, hm]; exact stopN_le _ _
  have hget : gtN l xk = some xv := (rise_get hR.rise xk xv).2 (List.mem_of_getElem? hlp)
  have HG : Hid (∀ Z, Rw 71 3 29 b0 Z gr kv vv (rkN r) (rvN r) → Calls Tryz.prog 59 #[.pointer (some ⟨gr, 0, none⟩), .int .i64 xk] Z fun e w' => e = .returned (.tuple #[.int .u64 xv, .bool true]) ∧ Z = w') := fun Z hz => by
    refine (wget_same b0 gr kv vv r xk Z hz (by rw [← hR.len]; omega)).mono ?_
    rintro e w' ⟨h2, h3⟩
    rw [← hR.get, hget] at h2
    exact ⟨h2, h3⟩
  obtain ⟨gl, off, cap, hv, _, _, _, _, _, _, hcl⟩ := hKL.form (by omega)
  have cx := hcl p (.int .i64 xk : Value) (iV_at (by unfold keysL; rw [List.getElem?_map, hlp]; rfl))
  subst hv
  have co : W.cell? ⟨bo, 0, none⟩ = some (.bool true) := hA.O.cell 0
  have cn : W.cell? ⟨bn, 0, none⟩ = some (.int .i64 (p : Nat)) := by rw [← hpp]; exact hA.N.cell 0
  have cw : W.cell? ⟨bw, 0, none⟩ = some (.int .i64 (u : Nat)) := hc.w.cell 0
  have ck : W.cell? ⟨bk, 0, none⟩ = some (.slice (some ⟨gl, off, none⟩) m cap) := hK.cell 0
  have fo := hA.O.free 0
  have fn := hA.N.free 0
  have n1 : bs ≠ bo := hc.s.ne hA.O (by decide)
  have n2 : bs ≠ bn := hnn.2.2
  have n3 : bn ≠ bo := hA.N.ne hA.O (by decide)
  have n4 := n3.symm
  have HWR : Hid (wrap64 ((p : Int) + 1) = (p : Int) + 1) := IntWalk.wrap64_in _ (by omega)
  obtain ⟨z, hz⟩ : ∃ z, z = W.setCell ⟨bo, 0, none⟩ (.bool true) := ⟨_, rfl⟩
  have hfz : Fr [bo] W z := by rw [hz]; exact (Fr.refl _ _).setCell (by simp) _
  have hcz := hC z (hfz.mono (by simp))
  have HRZ : Hid (∀ n, Rw 71 3 29 b0 (z.drewN n) gr kv vv (rkN r) (rvN r)) := fun n => hcz.r.fr ((Fr.refl [] z).drewN n) (by simp)
  have HZO : Hid (Bk z bo 4 #[.bool true]) := by rw [hz]; exact hA.O.put 0 (.bool true)
  have HZN : Hid (Bk z bn 3 #[.int .i64 (p : Nat)]) := by rw [← hpp]; exact hA.N.fr hfz (by simpa using n3)
  have zd : z.cell? ⟨bd, 0, none⟩ = some (.pointer (some ⟨gd, 0, none⟩)) := hcz.d.cell 0
  have zi : z.cell? ⟨bi, 0, none⟩ = some (.int .i64 (i : Nat)) := hcz.ix.cell 0
  have zs : z.cell? ⟨bs, 0, none⟩ = some (.int .i64 stop) := hcz.s.cell 0
  have zc := hcz.c
  have zo : z.cell? ⟨bo, 0, none⟩ = some (.bool true) := HZO.out.cell 0
  have zn : z.cell? ⟨bn, 0, none⟩ = some (.int .i64 (p : Nat)) := HZN.out.cell 0
  have zfo := HZO.out.free 0
  have zfn := HZN.out.free 0
  have HFZ := Lib.hid hfz
  have HZ := Lib.hid hz
  have i0 : (0 : Int) ≤ (i : Int) := by omega
  have i1 : (i : Int) < 2 := by omega
  have p0 : (0 : Int) ≤ (p : Int) := by omega
  have p1 : (p : Int) < (m : Int) := by omega
  have d1 : decide ((p : Int) < (u : Int)) = true := decide_eq_true (by omega)
  have d2 : decide (p < u) = true := decide_eq_true (by omega)
  have d3 : ((p : Int) < (u : Int)) := by omega
  have e1 : (xk == xk) = true := by simp
  have e2 : (xv == xv) = true := by simp
  have HPP := Lib.hid hpp
  have FIN : ∀ (b : Bool) (n : Nat), Hid (b = decide ((p : Int) + 1 = stop) → Usr n₀ [bo, bn] (Aw bo bn stop false) (Aw bo bn stop true) pre (xk, xv) W (.returned (.bool (!b))) (((z.drewN n).setCell ⟨bo, 0, none⟩ (.bool true)).setCell ⟨bn, 0, none⟩ (.int .i64 ((p : Int) + 1)))) := fun b n hb => by
    have s0 : Fr [] z (z.drewN n) := (Fr.refl [] z).drewN n
    have s1 : Fr [bo] (z.drewN n) ((z.drewN n).setCell ⟨bo, 0, none⟩ (.bool true)) := (Fr.refl _ _).setCell (by simp) _
    have s2 : Fr [bn] ((z.drewN n).setCell ⟨bo, 0, none⟩ (.bool true)) (((z.drewN n).setCell ⟨bo, 0, none⟩ (.bool true)).setCell ⟨bn, 0, none⟩ (.int .i64 ((p : Int) + 1))) := (Fr.refl _ _).setCell (by simp) _
    have hO := ((HZO.out.fr s0 (by simp)).put 0 (.bool true)).fr s2 (by simpa using n4)
    have hN := ((HZN.out.fr s0 (by simp)).fr s1 (by simpa using n3)).put 0 (.int .i64 ((p : Int) + 1))
    have hlen : (((pre ++ [(xk, xv)]).length : Nat) : Int) = (p : Int) + 1 := by rw [List.length_append, HPP.out]; simp
    have hk : ∀ c : Bool, c = b → Aw bo bn stop c (pre ++ [(xk, xv)]) (((z.drewN n).setCell ⟨bo, 0, none⟩ (.bool true)).setCell ⟨bn, 0, none⟩ (.int .i64 ((p : Int) + 1))) := fun c hcb => by
      refine ⟨hO, by rw [hlen]; exact hN, fun h => ?_, fun h => ?_⟩
      · rw [hcb] at h
        rw [h] at hb
        have := of_decide_eq_false hb.symm
        rw [hlen]
        omega
      · rw [hcb] at h
        rw [h] at hb
        have := of_decide_eq_true hb.symm
        rw [hlen]
        exact ⟨this, by simp⟩
    refine ⟨!b, rfl, ((HFZ.out.kb (by simp)).trans (s0.kb (by simp))).trans ((s1.kb (by simp)).trans (s2.kb (by simp))), fun h => hk false ?_, fun h => hk true ?_⟩
    · cases b <;> simp_all
    · cases b <;> simp_all
  clear hc hK hKL hm hkm hpp hlp hpu hum hget hcl hfz hcz hA hp hu hC hnn hR hl hg
  have hw := HWR.out
  go_enter Tryz.func94, Tryz.ntmps94
  go_upto_region 2 with fail
  rw [← HZ.out]
  clear hz co cn cw ck cx fo fn
  go_wp2_with fail
  go_quiet ((go_at_call 59; exact qleft (HG.out _ (HRZ.out _))))
  clear zd zi zc
  by_cases hst : (p : Int) + 1 = stop
  · have q1 : ((p : Int) + 1 == stop) = true := by simpa using hst
    have q2 : ((p : Int) + 1 != stop) = false := by simpa using hst
    have HQ := Lib.hid (decide_eq_true hst)
    clear hst
    have F := FIN true
    clear FIN
    go_wp2_with fail
    go_ret
    exact (F _).out HQ.out.symm
  · have q1 : ((p : Int) + 1 == stop) = false := by simpa using hst
    have q2 : ((p : Int) + 1 != stop) = true := by simpa using hst
    have HQ := Lib.hid (decide_eq_false hst)
    clear hst
    have F := FIN false
    clear FIN
    go_wp2_with fail
    go_ret
    exact (F _).out HQ.out.symm
end Go.Proofs.YtdjaalkbpdmdgaaGreat
