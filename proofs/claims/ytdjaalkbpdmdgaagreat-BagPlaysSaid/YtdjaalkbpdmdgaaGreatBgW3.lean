/-
  Bag, the document's table of words by number: Drop.
-/
import Derived.Test.YtdjaalkbpdmdgaaGreatBgW2
namespace Go.Proofs.YtdjaalkbpdmdgaaGreat
open Go.RowKit
set_option linter.unusedVariables false

def rdropR (r : List PN) (k : Int) : List PN := match findA r k with | some i => (r.set i (r.getD (r.length - 1) (0, 0))).take (r.length - 1) | none => r

set_option maxRecDepth 100000 in
set_option maxHeartbeats 800000 in
theorem wdrop_any (b0 g : Nat) (kv vv : Value) (r : List PN) (k : Int) (w : World) (h : RwN b0 w g kv vv r) (hl : r.length ≤ 1000000) (hb : b0 ≤ w.heap.size) :
    Calls Tryz.prog 61 #[.pointer (some ⟨g, 0, none⟩), .int .i64 k] w fun e w' => e = .returned (.bool (findA r k).isSome) ∧ ∃ kv' vv', RwS 71 3 29 b0 g kv vv w kv' vv' (rkN (rdropR r k)) (rvN (rdropR r k)) w' := by
  have HF := Lib.hid (wfind_any b0 g kv vv r k w h hl)
  cases hf : findA r k with
  | none =>
    have e2 : findI r k = -1 := by unfold findI; rw [hf]
    have e3 : rdropR r k = r := by unfold rdropR; rw [hf]
    rw [e2] at HF
    have HEND : Hid (∃ kv' vv', RwS 71 3 29 b0 g kv vv w kv' vv' (rkN (rdropR r k)) (rvN (rdropR r k)) w) := by
      rw [e3]
      exact ⟨kv, vv, RwS.refl h⟩
    clear h e2 e3 hf
    go_enter Tryz.func61, Tryz.ntmps61
    go_wp2_with fail
    refine (Calls.mono HF.out ?_)
    rintro e w' ⟨rfl, rfl⟩
    go_wp2_with fail
    go_ret
    exact ⟨rfl, HEND.out⟩
  | some i =>
    obtain ⟨v0, hp, hi⟩ := findA_at hf
    have e2 : findI r k = (i : Int) := by unfold findI; rw [hf]
    rw [e2] at HF
    obtain ⟨m, hm⟩ : ∃ m, r.length = m + 1 := ⟨r.length - 1, by omega⟩
    obtain ⟨lp, hlp⟩ : ∃ lp, r[m]? = some lp := ⟨_, List.getElem?_eq_getElem (by omega)⟩
    obtain ⟨lk, lv⟩ := lp
    have e3 : rdropR r k = (r.set i (lk, lv)).take m := by
      unfold rdropR
      rw [hf]
      simp only
      rw [hm, Nat.add_sub_cancel, List.getD_eq_getElem?_getD, hlp]
      rfl
    have eK : rkN (rdropR r k) = ((rkN r).set i (.int .i64 lk)).take m := by
      rw [e3]
      unfold rkN
      rw [List.map_take, List.map_set]
      rfl
    have eV : rvN (rdropR r k) = ((rvN r).set i (.int .u64 lv)).take m := by
      rw [e3]
      unfold rvN
      rw [List.map_take, List.map_set]
      rfl
    have nk : (rkN r).length = m + 1 := by rw [rkN_len, hm]
    have nv : (rvN r).length = m + 1 := by rw [rvN_len, hm]
    obtain ⟨gk, ok, pk, hkv, _, _, hck, hckm, _, hfzk, hclk⟩ := h.K.form (by omega)
    obtain ⟨gv, ov, pv, hvv, _, _, hcv, hcvm, _, hfzv, hclv⟩ := h.V.form (by omega)
    -- the four steps
    have S1 := h.cellK (i := i) (u := .int .i64 lk) (by decide) (by decide) hkv
    have S2 := S1.trans (S1.1.cellV (i := i) (u := .int .u64 lv) (by decide) (by decide) hvv)
    obtain ⟨w2, hw2⟩ : ∃ w2, (w.setCell ⟨gk, ok + i, none⟩ (.int .i64 lk)).setCell ⟨gv, ov + i, none⟩ (.int .u64 lv) = w2 := ⟨_, rfl⟩
    rw [hw2] at S2
    rw [nk] at hkv hck
    rw [nv] at hvv hcv
    have K2 := S2.1.K
    have V2 := S2.1.V
    rw [List.length_set, nk, hkv] at K2
    rw [List.length_set, nv, hvv] at V2
    have K3 := K2.shut (k := m) (by omega)
    have V3 := V2.shut (k := m) (by omega)
    rw [Nat.mul_one] at K3 V3
    have lk3 : (((rkN r).set i (.int .i64 lk)).take m).length = m := by rw [List.length_take, List.length_set, nk]; omega
    have lv3 : (((rvN r).set i (.int .u64 lv)).take m).length = m := by rw [List.length_take, List.length_set, nv]; omega
    have P3 := S2.1.putK (w1 := w2) (v' := .slice (some ⟨gk, ok, none⟩) m pk) (ks' := ((rkN r).set i (.int .i64 lk)).take m) (by decide) (by decide) (by decide) (Fr.refl _ _) (by rw [lk3]; exact K3) (fun x hx => .inl (by rw [hkv]; exact hx))
    have S3 := S2.trans P3.2
    have V4 := S3.1.V
    rw [List.length_set, nv, hvv] at V4
    have V5 := V4.shut (k := m) (by omega)
    rw [Nat.mul_one] at V5
    have P4 := S3.1.putV (w1 := w2.setCell ⟨g, 0, none⟩ (.slice (some ⟨gk, ok, none⟩) m pk)) (v' := .slice (some ⟨gv, ov, none⟩) m pv) (vs' := ((rvN r).set i (.int .u64 lv)).take m) (by decide) (by decide) (by decide) (Fr.refl _ _) (by rw [lv3]; exact V5) (fun x hx => .inl (by rw [hvv]; exact hx))
    have S4 := S3.trans P4.2
    have HEND : Hid (∃ kv' vv', RwS 71 3 29 b0 g kv vv w kv' vv' (rkN (rdropR r k)) (rvN (rdropR r k)) ((w2.setCell ⟨g, 0, none⟩ (.slice (some ⟨gk, ok, none⟩) m pk)).setCell ⟨g, 1, none⟩ (.slice (some ⟨gv, ov, none⟩) m pv))) := by
      rw [eK, eV]
      exact ⟨_, _, S4⟩
    have c0 : w.cell? ⟨g, 0, none⟩ = some (.slice (some ⟨gk, ok, none⟩) (m + 1) pk) := by rw [← hkv]; exact h.B.cell 0
    have c1 : w.cell? ⟨g, 1, none⟩ = some (.slice (some ⟨gv, ov, none⟩) (m + 1) pv) := by rw [← hvv]; exact h.B.cell 1
    have cki := hclk i _ (rkN_at hp)
    have ckm := hclk m _ (rkN_at hlp)
    have cvi := hclv i _ (rvN_at hp)
    have cvm := hclv m _ (rvN_at hlp)
    have fki := hfzk (ok + i)
    have fvi := hfzv (ov + i)
    unfold kN at cki ckm
    unfold vN at cvi cvm
    -- behind the first store
    obtain ⟨w1, hw1⟩ : ∃ w1, w.setCell ⟨gk, ok + i, none⟩ (.int .i64 lk) = w1 := ⟨_, rfl⟩
    rw [hw1] at S1 hw2
    have d1 : w1.cell? ⟨g, 1, none⟩ = some (.slice (some ⟨gv, ov, none⟩) (m + 1) pv) := by rw [← hvv]; exact S1.1.B.cell 1
    obtain ⟨gv', ov', pv', hvv', _, _, _, _, _, hfz1, hcl1⟩ := S1.1.V.form (by omega)
    rw [nv, hvv] at hvv'
    injection hvv' with r1 _ r3
    injection r1 with r1
    injection r1 with r1 r4
    subst r1 r3 r4
    have dvi := hcl1 i _ (rvN_at hp)
    have dvm := hcl1 m _ (rvN_at hlp)
    have gvi := hfz1 (ov + i)
    unfold vN at dvi dvm
    have k0 : w2.cell? ⟨g, 0, none⟩ = some (.slice (some ⟨gk, ok, none⟩) (m + 1) pk) := by rw [← hkv]; exact S2.1.B.cell 0
    have k1 : w2.cell? ⟨g, 1, none⟩ = some (.slice (some ⟨gv, ov, none⟩) (m + 1) pv) := by rw [← hvv]; exact S2.1.B.cell 1
    have kf0 := S2.1.B.free 0
    have kf1 := S2.1.B.free 1
    have i0 : (0 : Int) ≤ (i : Int) := by omega
    have i1 : (i : Int) < ((m + 1 : Nat) : Int) := by omega
    have i1' : (i : Int) < (m : Int) + 1 := by omega
    have i2 : decide ((i : Int) < 0) = false := decide_eq_false (by omega)
    have m0 : (0 : Int) ≤ (m : Int) := by omega
    have m1 : (m : Int) < ((m + 1 : Nat) : Int) := by omega
    have m1' : (m : Int) < (m : Int) + 1 := by omega
    have m2 : IntKind.i64.wrap (((m + 1 : Nat) : Int) - 1) = (m : Int) := by rw [show ((m + 1 : Nat) : Int) - 1 = (m : Int) by omega]; exact IntWalk.i64_in _ (by omega)
    have m3 : IntKind.i64.wrap (m : Int) = (m : Int) := IntWalk.i64_in _ (by omega)
    have m4 : (m : Int) ≤ (pk : Int) := by omega
    have m5 : (m : Int) ≤ (pv : Int) := by omega
    have hpk : pk ≤ 9223372036854775807 := by unfold maxLen at hckm; omega
    have hpv : pv ≤ 9223372036854775807 := by unfold maxLen at hcvm; omega
    clear h e2 e3 hf eK eV nk nv hkv hvv hfzk hclk hfzv hclv S1 S2 S3 S4 P3 P4 K2 V2 K3 V3 V4 V5 lk3 lv3 hfz1 hcl1 hp hlp hm hl cvi cvm fvi
    go_enter Tryz.func61, Tryz.ntmps61
    go_wp2_with fail
    refine (Calls.mono HF.out ?_)
    rintro e w' ⟨rfl, rfl⟩
    go_upto_region 5 with fail
    go_region
    all_goals
      go_upto_region 6 with fail
      try rw [hw1]
    all_goals
      clear c0 c1 cki ckm fki
      go_region
    all_goals
      go_upto_region 7 with fail
      try rw [hw2]
    all_goals
      clear d1 dvi dvm gvi
      go_wp2_with fail
      go_ret
      first
        | exact ⟨rfl, HEND.out⟩
        | (obtain ⟨kv', vv', h1, h2, h3⟩ := HEND.out; exact ⟨rfl, kv', vv', h1.fr (((Fr.refl [] _).drew).drew) (fun x _ => by simp), h2.drew.drew, h3⟩)
end Go.Proofs.YtdjaalkbpdmdgaaGreat
