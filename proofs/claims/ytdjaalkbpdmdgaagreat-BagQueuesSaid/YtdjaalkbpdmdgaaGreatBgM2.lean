/-
  Bag: Map of a queue of numbers.
-/
import Derived.Test.YtdjaalkbpdmdgaaGreatBgM1
import Derived.Deep.CutRange
namespace Go.Proofs.YtdjaalkbpdmdgaaGreat
open Go.RowKit
set_option linter.unusedVariables false

theorem map_step {L : List Int} {f : Int → Int} {k : Nat} {x : Int} (h : L[k]? = some x) : ((L.take k).map f ++ L.drop k)[k]? = some x ∧ ((L.take k).map f ++ L.drop k).set k (f x) = (L.take (k + 1)).map f ++ L.drop (k + 1) := by
  obtain ⟨h1, h2⟩ := List.getElem?_eq_some_iff.1 h
  have hl : ((L.take k).map f).length = k := by simp; omega
  have hd : L.drop k = x :: L.drop (k + 1) := by rw [List.drop_eq_getElem_cons h1, h2]
  refine ⟨?_, ?_⟩
  · rw [List.getElem?_append_right (by omega), hl, hd]
    simp
  · rw [List.set_append_right _ _ (by omega), hl, hd, List.take_succ_eq_append_getElem h1, h2]
    simp
/-- What Map leaves. -/
def MapO (w0 : World) (Ts : List (Th w0.heap.size)) (g bt ja jt : Nat) (most n : Int) (L L2 : List Int) (w' : World) : Prop :=
  ∃ Ts' v vt, Sg w0 Ts' w' ∧ Chg Ts Ts' ja jt ∧ Ts'[ja]? = some (thSk 122 w0.heap.size g most v L2) ∧ Ts'[jt]? = some (thTn w0.heap.size bt n vt L)

set_option maxRecDepth 100000 in
set_option maxHeartbeats 1600000 in
theorem map_any {w0 w : World} {Ts : List (Th w0.heap.size)} {g bt ja jt : Nat} {most n : Int} {v vt : Value} {L : List Int} (h : Sg w0 Ts w) (ha : Ts[ja]? = some (thSk 122 w0.heap.size g most v L)) (ht : Ts[jt]? = some (thTn w0.heap.size bt n vt [])) (hab : ja ≠ jt) (hL : L.length ≤ 100000) :
    Calls Tryz.prog 42 #[.pointer (some ⟨g, 0, none⟩), .func (.func 43) #[.pointer (some ⟨bt, 0, none⟩)] #[]] w fun e w' => e = .returned (.tuple #[]) ∧ MapO w0 Ts g bt ja jt most n L (L.map (f3 n)) w' := by
  have hla := (List.getElem?_eq_some_iff.1 ha).1
  have hlt := (List.getElem?_eq_some_iff.1 ht).1
  obtain ⟨m, hm⟩ : ∃ m, L.length = m := ⟨_, rfl⟩
  have HM := Lib.hid hm
  have hs := h.sk_at ha
  obtain ⟨A, cp, hv, _, hcm⟩ := hs.L.look
  rw [hm] at hv
  have c1 : w.cell? ⟨g, 1, none⟩ = some (.slice A m cp) := by rw [← hv]; exact hs.B.cell 1
  subst hv
  have HEG : ∀ args w, (callFunc 43 args).run Tryz.prog w = .ok (.enter 43 args) w := enters_of Tryz.func43 (by kernel_rfl) rfl
  -- the state: the first k turned and seen
  have H0 : Hid (∃ T vt', Sg w0 T w ∧ Chg Ts T ja jt ∧ T[ja]? = some (thSk 122 w0.heap.size g most (.slice A m cp) ((L.take 0).map (f3 n) ++ L.drop 0)) ∧ T[jt]? = some (thTn w0.heap.size bt n vt' (L.take 0))) := ⟨Ts, vt, h, Chg.refl _ _ _, by simpa using ha, by simpa using ht⟩
  rw [hm] at hL
  have HLA : Hid (ja < Ts.length ∧ jt < Ts.length ∧ ja ≠ jt) := ⟨hla, hlt, hab⟩
  clear h ha ht hs hm hla hlt hab
  go_enter Tryz.func42, Tryz.ntmps42
  go_wp2_with fail
  go_loopw [11] (fun j wr => ∃ k : Nat, k ≤ m ∧ j = .int .i64 k ∧ Hid (∃ T vt', Sg w0 T wr ∧ Chg Ts T ja jt ∧ T[ja]? = some (thSk 122 w0.heap.size g most (.slice A m cp) ((L.take k).map (f3 n) ++ L.drop k)) ∧ T[jt]? = some (thTn w0.heap.size bt n vt' (L.take k)))) (fun j _ => m - (intOf j).toNat)
  case atStart => exact ⟨0, by omega, rfl, H0.out⟩
  case round =>
    obtain ⟨k, hk, rfl, hx⟩ := hrel
    obtain ⟨T, vt', t1, t2, t3, t4⟩ := hx.out
    clear hx c1
    by_cases hlk : k < m
    · obtain ⟨x, hxk⟩ : ∃ x, L[k]? = some x := ⟨_, List.getElem?_eq_getElem (by have := HM.out; omega)⟩
      obtain ⟨st1, st2⟩ := map_step (f := f3 n) hxk
      have hs := t1.sk_at t3
      have hlen : ((L.take k).map (f3 n) ++ L.drop k).length = m := by simp; have := HM.out; omega
      have hsL := hs.L
      rw [hlen] at hsL
      obtain ⟨gl, off, cap, hq, _, hgl, _, _, _, hfz, hcl⟩ := hsL.form (by omega)
      injection hq with q1 _ q3
      subst q1 q3
      have cx := hcl k _ (iV_at st1)
      have cq : wr.cell? ⟨g, 1, none⟩ = some (.slice (some ⟨gl, off, none⟩) m cp) := hs.B.cell 1
      have hgq := hs.B.lt
      -- the call
      have htn : Tn w0.heap.size wr bt n vt' (L.take k) := t1.ok jt _ t4
      have HC : Hid (∀ Z, Fr [] wr Z → Calls Tryz.prog 43 #[.pointer (some ⟨bt, 0, none⟩), .int .i64 x] Z (TnTo w0.heap.size bt n vt' (L.take k ++ [x]) (.int .i64 (f3 n x)) Z)) := fun Z hz =>
        of_any _ _ _ _ _ x Z (htn.fr hz (by simp)) (by rw [List.length_take]; omega) (Nat.le_trans t1.fr.size hz.size)
      have htk : L.take (k + 1) = L.take k ++ [x] := by
        obtain ⟨q1, q2⟩ := List.getElem?_eq_some_iff.1 hxk
        rw [List.take_succ_eq_append_getElem q1, q2]
      -- what a store behind the call leaves
      have HAFT : Hid (∀ Z e z, Fr [] wr Z → TnTo w0.heap.size bt n vt' (L.take k ++ [x]) (.int .i64 (f3 n x)) Z e z → e = .returned (.int .i64 (f3 n x)) ∧ z.cell? ⟨g, 1, none⟩ = some (.slice (some ⟨gl, off, none⟩) m cp) ∧ z.cell? ⟨gl, off + k, none⟩ = some (.int .i64 x) ∧ z.frozen? ⟨gl, off + k, none⟩ = false ∧
          ∃ T vt', Sg w0 T (z.setCell ⟨gl, off + k, none⟩ (.int .i64 (f3 n x))) ∧ Chg Ts T ja jt ∧ T[ja]? = some (thSk 122 w0.heap.size g most (.slice (some ⟨gl, off, none⟩) m cp) ((L.take (k + 1)).map (f3 n) ++ L.drop (k + 1))) ∧ T[jt]? = some (thTn w0.heap.size bt n vt' (L.take (k + 1)))) := fun Z e z hZ ho => by
        obtain ⟨rfl, vn, hz⟩ := (t1.nil hZ).tn t4 ho
        have ta : (T.set jt (thTn w0.heap.size bt n vn (L.take k ++ [x])))[ja]? = some (thSk 122 w0.heap.size g most (.slice (some ⟨gl, off, none⟩) m cp) ((L.take k).map (f3 n) ++ L.drop k)) := by rw [List.getElem?_set_ne (Ne.symm HLA.out.2.2)]; exact t3
        have hs2 := hz.sk_at ta
        have hL2 := hs2.L
        rw [hlen] at hL2
        obtain ⟨gl', off', cap', hq', _, _, _, _, _, hfz', hcl'⟩ := hL2.form (by omega)
        injection hq' with r1 _ r3
        injection r1 with r1
        injection r1 with r1 r4
        subst r1 r3 r4
        have hp := hL2.put (j := k) (.int .i64 (f3 n x))
        have e1 : (iV ((L.take k).map (f3 n) ++ L.drop k)).set k (.int .i64 (f3 n x)) = iV ((L.take (k + 1)).map (f3 n) ++ L.drop (k + 1)) := by
          rw [← st2]
          unfold iV
          rw [List.map_set]
        have hlen2 : ((L.take (k + 1)).map (f3 n) ++ L.drop (k + 1)).length = m := by rw [← st2, List.length_set]; exact hlen
        rw [e1] at hp
        refine ⟨rfl, hs2.B.cell 1, hcl' k _ (iV_at st1), hfz' _, _, vn, hz.set (t' := thSk 122 w0.heap.size g most (.slice (some ⟨gl, off, none⟩) m cp) ((L.take (k + 1)).map (f3 n) ++ L.drop (k + 1))) ta ((Fr.refl _ _).setCell (.inl (by simp [thSk, skT, Value.ownBlock])) _) ⟨hs2.B.far (p := ⟨gl, off + k, none⟩) (fun e => (hL2.ne_bk hs2.B (by decide) gl (by simp [Value.ownBlock])) e.symm) _, by rw [hlen2]; exact hp, hs2.b⟩ (fun y hy => .inl hy), (t2.set2 _).set1 _, ?_, ?_⟩
        · rw [List.getElem?_set_self (by rw [List.length_set, t2.1]; exact HLA.out.1)]
        · rw [List.getElem?_set_ne HLA.out.2.2, List.getElem?_set_self (by rw [t2.1]; exact HLA.out.2.1), htk]
      have i0 : (0 : Int) ≤ (k : Int) := by omega
      have i1 : (k : Int) < (m : Int) := by omega
      have i2 : decide ((k : Int) < (m : Int)) = true := decide_eq_true i1
      have hmb : m ≤ 100000 := hL
      clear hxk st1 st2 hs hsL hcl hfz htn htk t1 t2 t3 t4 hlen
      go_upto_region 3 with fail
      go_region_with (go_at_call 43; refine (HC.out _ (by first | exact Fr.refl _ _ | exact (Fr.refl _ _).drew)).mono ?_; intro en z ho; obtain ⟨rfl, e1, e2, e3, e4⟩ := HAFT.out _ en z (by first | exact Fr.refl _ _ | exact (Fr.refl _ _).drew) ho)
      all_goals
        have HX := Lib.hid e4
        clear ho e4
        go_wp2_with fail
        go_roundw
        case rel =>
          first
            | exact ⟨k + 1, by omega, by go_num, HX.out⟩
            | (obtain ⟨T, vn, z1, z2, z3, z4⟩ := HX.out; exact ⟨k + 1, by omega, by go_num, ⟨T, vn, z1.nil ((Fr.refl _ _).drew), z2, z3, z4⟩⟩)
        case measure => simp [intOf]; omega
    · obtain rfl : m = k := by omega
      have HX : Hid (MapO w0 Ts g bt ja jt most n L (L.map (f3 n)) wr) := by
        refine ⟨T, .slice A m cp, vt', t1, t2, ?_, ?_⟩
        · rw [t3, List.take_of_length_le (by have := HM.out; omega), List.drop_eq_nil_of_le (by have := HM.out; omega), List.append_nil]
        · rw [t4, List.take_of_length_le (by have := HM.out; omega)]
      have i2 : decide ((m : Int) < (m : Int)) = false := decide_eq_false (by omega)
      clear t1 t2 t3 t4
      go_wp2_with fail
      go_returns
      exact ⟨rfl, HX.out⟩
end Go.Proofs.YtdjaalkbpdmdgaaGreat
