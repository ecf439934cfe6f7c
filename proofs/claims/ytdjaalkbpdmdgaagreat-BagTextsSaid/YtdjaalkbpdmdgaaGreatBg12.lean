/-
  Bag: given with a caller's own function (Usr: what that must do).
-/
import Derived.Test.YtdjaalkbpdmdgaaGreatBg11
namespace Go.Proofs.YtdjaalkbpdmdgaaGreat
open Go.RowKit Go.Shelf
set_option linter.unusedVariables false

/-- What the caller's function must do with the thing x behind pre: U (go on) or Ux (left). -/
def Usr {α : Type} (n₀ : Nat) (T : List Nat) (U Ux : List α → World → Prop) (pre : List α) (x : α) (W : World) (e : Ending) (W' : World) : Prop :=
  ∃ b : Bool, e = .returned (.bool b) ∧ Kb n₀ T W W' ∧ (b = true → U (pre ++ [x]) W') ∧ (b = false → Ux (pre ++ [x]) W')
def Given {α : Type} (n₀ : Nat) (T : List Nat) (U Ux : List α → World → Prop) (L : List α) (w : World) (e : Ending) (W' : World) : Prop :=
  e = .returned (.tuple #[]) ∧ Kb n₀ T w W' ∧ (U L W' ∨ ∃ pre, pre <+: L ∧ Ux pre W')

set_option maxRecDepth 100000 in
set_option maxHeartbeats 1600000 in
theorem giveI (gy : Nat) (caps : Array Value) (b0 n₀ : Nat) (T : List Nat) (v : Value) (l : List Int) (hl2 : l.length ≤ 1000000000) (eg : ∀ args w, (callFunc gy args).run Tryz.prog w = .ok (.enter gy args) w)
    (hv : ∀ k, v.ownBlock = some k → k < n₀ ∧ k ∉ T) (U Ux : List Int → World → Prop) (W : World)
    (hY : ∀ pre (x : Int) W1, pre ++ [x] <+: l → Kb n₀ T W W1 → U pre W1 → Calls Tryz.prog gy (#[.int .i64 x] ++ caps) W1 (Usr n₀ T U Ux pre x W1))
    (hL : Lst W b0 3 1 v l.length (iV l)) (h0 : U [] W) :
    Calls Tryz.prog 80 #[v, .func (.func gy) #[] caps] W (Given n₀ T U Ux l W) := by
  obtain ⟨m, hm⟩ : ∃ m, l.length = m := ⟨_, rfl⟩
  rw [hm] at hL hl2
  obtain ⟨A, cp, rfl, _, _⟩ := hL.look
  have HL := Lib.hid hL
  have HY := Lib.hid hY
  have HM := Lib.hid hm
  have HV := Lib.hid hv
  clear hL hY hm hv
  go_enter Tryz.func80, Tryz.ntmps80
  go_wp2_with fail
  go_loopw [8] (fun u wr => ∃ k : Nat, k ≤ m ∧ u = .int .i64 k ∧ Hid (U (l.take k) wr) ∧ Hid (Kb n₀ T W wr)) (fun u _ => m - (intOf u).toNat)
  case atStart => exact ⟨0, Nat.zero_le _, rfl, h0, Kb.refl _ _ _⟩
  case round =>
    obtain ⟨q, hk, rfl, HJ, HK⟩ := hrel
    by_cases hlt : q < m
    · have hd : decide ((q : Int) < (m : Int)) = true := decide_eq_true (by omega)
      obtain ⟨x, hx⟩ : ∃ x, l[q]? = some x := ⟨_, List.getElem?_eq_getElem (by have := HM.out; omega)⟩
      have hLr := HK.out.lst HL.out HV.out
      obtain ⟨gs, off, cp', hv, _, _, _, _, _, _, hcell⟩ := hLr.form (by omega)
      injection hv with hv1 _ hv3
      subst hv1
      have hnext : l.take q ++ [x] = l.take (q + 1) := by
        obtain ⟨h1, h2⟩ := List.getElem?_eq_some_iff.1 hx
        rw [List.take_succ_eq_append_getElem h1, h2]
      have hpre : l.take q ++ [x] <+: l := by rw [hnext]; exact List.take_prefix _ _
      have cx := hcell q _ (iV_at hx)
      have i0 : (0 : Int) ≤ (q : Int) := by omega
      have i1 : (q : Int) < (m : Int) := by omega
      have hcall := HY.out (l.take q) x wr hpre HK.out HJ.out
      have HZK : Hid (Kb n₀ T wr wr) := Kb.refl _ _ _
      have HN := Lib.hid hnext
      have HC := Lib.hid hcall
      clear hcell hv3 hx hLr hnext hcall hpre
      go_wp2_with fail
      refine (Calls.mono HC.out ?_)
      rintro e W3 ⟨b, rfl, hk3, hu, hux⟩
      have HK3 : Hid (Kb n₀ T W W3) := (HK.out.trans HZK.out).trans hk3
      cases b with
      | true =>
        have HJ3 := Lib.hid (hu rfl)
        clear hu hux hk3 HZK HC
        go_wp2_with fail
        go_roundw
        case rel => exact ⟨q + 1, by omega, by go_num, (by show U (l.take (q + 1)) W3; rw [← HN.out]; exact HJ3.out), HK3.out⟩
        case measure => simp [intOf]; omega
      | false =>
        have HJ3 := Lib.hid (hux rfl)
        clear hu hux hk3 HZK HC
        go_wp2_with fail
        go_end0
        exact ⟨rfl, HK3.out, .inr ⟨_, List.take_prefix (q + 1) l, by rw [← HN.out]; exact HJ3.out⟩⟩
    · obtain rfl : q = m := by omega
      have hd : decide ((q : Int) < (q : Int)) = false := decide_eq_false (by omega)
      go_wp2_with fail
      go_end0
      refine ⟨rfl, HK.out, .inl ?_⟩
      have := HJ.out
      rw [List.take_of_length_le (by rw [HM.out]; exact Nat.le_refl _)] at this
      exact this

set_option maxRecDepth 100000 in
set_option maxHeartbeats 1600000 in
theorem giveN (gy : Nat) (caps : Array Value) (b0 n₀ : Nat) (T : List Nat) (v : Value) (l : List PN) (hl2 : l.length ≤ 1000000000) (eg : ∀ args w, (callFunc gy args).run Tryz.prog w = .ok (.enter gy args) w)
    (hv : ∀ k, v.ownBlock = some k → k < n₀ ∧ k ∉ T) (U Ux : List PN → World → Prop) (hJa : ∀ pre W o, U pre W → U pre (W.alloc o)) (W : World)
    (hY : ∀ pre (x : PN) W1, pre ++ [x] <+: l → Kb n₀ T W W1 → U pre W1 → Calls Tryz.prog gy (#[.agg #[kN x.1, vN x.2]] ++ caps) W1 (Usr n₀ T U Ux pre x W1))
    (hL : Lst W b0 138 2 v l.length (cellsN l)) (h0 : U [] W) :
    Calls Tryz.prog 102 #[v, .func (.func gy) #[] caps] W (Given n₀ T U Ux l W) := by
  obtain ⟨m, hm⟩ : ∃ m, l.length = m := ⟨_, rfl⟩
  rw [hm] at hL hl2
  obtain ⟨A, cp, rfl, _, _⟩ := hL.look
  have HL := Lib.hid hL
  have HY := Lib.hid hY
  have HM := Lib.hid hm
  have HV := Lib.hid hv
  have HJA := Lib.hid hJa
  clear hJa
  clear hL hY hm hv
  go_enter Tryz.func102, Tryz.ntmps102
  go_wp2_with fail
  go_loopw [8] (fun u wr => ∃ k : Nat, k ≤ m ∧ u = .int .i64 k ∧ Hid (U (l.take k) wr) ∧ Hid (Kb n₀ T W wr)) (fun u _ => m - (intOf u).toNat)
  case atStart => exact ⟨0, Nat.zero_le _, rfl, h0, Kb.refl _ _ _⟩
  case round =>
    obtain ⟨q, hk, rfl, HJ, HK⟩ := hrel
    by_cases hlt : q < m
    · have hd : decide ((q : Int) < (m : Int)) = true := decide_eq_true (by omega)
      obtain ⟨x, hx⟩ : ∃ x, l[q]? = some x := ⟨_, List.getElem?_eq_getElem (by have := HM.out; omega)⟩
      have hLr := HK.out.lst HL.out HV.out
      obtain ⟨gs, off, cp', hv, _, _, _, _, _, _, hcell⟩ := hLr.form (by omega)
      injection hv with hv1 _ hv3
      subst hv1
      have hnext : l.take q ++ [x] = l.take (q + 1) := by
        obtain ⟨h1, h2⟩ := List.getElem?_eq_some_iff.1 hx
        rw [List.take_succ_eq_append_getElem h1, h2]
      have hpre : l.take q ++ [x] <+: l := by rw [hnext]; exact List.take_prefix _ _
      obtain ⟨pk, pv⟩ := x
      obtain ⟨ck, cv⟩ := cells2_at (fun p : PN => kN p.1) (fun p => vN p.2) l q (pk, pv) hx
      have ck := hcell _ _ ck
      have cv := hcell _ _ cv
      rw [← Nat.add_assoc] at cv
      unfold kN at ck
      unfold vN at cv
      have i0 : (0 : Int) ≤ (q : Int) := by omega
      have i1 : (q : Int) < (m : Int) := by omega
      obtain ⟨z, hz⟩ : ∃ z, z = wr.alloc (.cells #[.int .i64 pk, .int .u64 pv] 138) := ⟨_, rfl⟩
      have hJz : U (l.take q) z := by rw [hz]; exact HJA.out _ _ _ HJ.out
      have HZK : Hid (Kb n₀ T wr z) := by rw [hz]; exact ((Fr.refl [] wr).alloc _).kb (by simp)
      have hcall := HY.out (l.take q) (pk, pv) z hpre (HK.out.trans HZK.out) hJz
      have HN := Lib.hid hnext
      have HC := Lib.hid hcall
      clear hcell hv3 hx hLr hnext hcall hpre
      go_wp2_with fail
      rw [← hz]
      refine (Calls.mono HC.out ?_)
      rintro e W3 ⟨b, rfl, hk3, hu, hux⟩
      have HK3 : Hid (Kb n₀ T W W3) := (HK.out.trans HZK.out).trans hk3
      cases b with
      | true =>
        have HJ3 := Lib.hid (hu rfl)
        clear hu hux hk3 HZK HC
        go_wp2_with fail
        go_roundw
        case rel => exact ⟨q + 1, by omega, by go_num, (by show U (l.take (q + 1)) W3; rw [← HN.out]; exact HJ3.out), HK3.out⟩
        case measure => simp [intOf]; omega
      | false =>
        have HJ3 := Lib.hid (hux rfl)
        clear hu hux hk3 HZK HC
        go_wp2_with fail
        go_end0
        exact ⟨rfl, HK3.out, .inr ⟨_, List.take_prefix (q + 1) l, by rw [← HN.out]; exact HJ3.out⟩⟩
    · obtain rfl : q = m := by omega
      have hd : decide ((q : Int) < (q : Int)) = false := decide_eq_false (by omega)
      go_wp2_with fail
      go_end0
      refine ⟨rfl, HK.out, .inl ?_⟩
      have := HJ.out
      rw [List.take_of_length_le (by rw [HM.out]; exact Nat.le_refl _)] at this
      exact this
end Go.Proofs.YtdjaalkbpdmdgaaGreat
