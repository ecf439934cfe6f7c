/-
  Roots in general: each.
-/
import Derived.Test.YtdcppdgnekhcgaaGreatDoorRtS9
namespace Go.Proofs.YtdcppdgnekhcgaaGreatDoor
open Go.RowKit
set_option maxRecDepth 100000
set_option linter.unusedVariables false

theorem stepL_fst (y : List Int → Int → Int) (pre acc : List Int) (x : Int) : (stepL y (pre, acc) x).1.length ≤ pre.length + 1 := by
  unfold stepL
  split <;> simp
theorem trL_fst (y : List Int → Int → Int) : ∀ (l : List Int) (s : List Int × List Int), (l.foldl (stepL y) s).1.length ≤ s.1.length + l.length
  | [], s => by simp
  | x :: l, s => by
    have h1 := trL_fst y l (stepL y s x)
    have h2 := stepL_fst y s.1 s.2 x
    rw [List.foldl_cons, List.length_cons]
    have e : stepL y s x = stepL y (s.1, s.2) x := rfl
    rw [← e] at h2
    omega
theorem trF_fst (y : List Int → Int → Int) : ∀ (l : List (List Int)) (s : List Int × List (List Int)), (l.foldl (stepF y) s).1.length ≤ s.1.length + sumL l
  | [], s => by simp
  | x :: l, s => by
    have h1 := trF_fst y l (stepF y s x)
    have h2 := trL_fst y x (s.1, [])
    rw [List.foldl_cons]
    unfold sumL at h1 ⊢
    rw [List.map_cons, List.sum_cons]
    unfold stepF trL at h1 ⊢
    simp only at h1 h2 ⊢
    omega
def sumT (ths : List (List (List Int))) : Nat := (ths.map sumL).sum
theorem trT_fst (y : List Int → Int → Int) : ∀ (l : List (List (List Int))) (s : List Int × List (List (List Int))), (l.foldl (stepT y) s).1.length ≤ s.1.length + sumT l
  | [], s => by simp
  | x :: l, s => by
    have h1 := trT_fst y l (stepT y s x)
    have h2 := trF_fst y x (s.1, [])
    rw [List.foldl_cons]
    unfold sumT at h1 ⊢
    rw [List.map_cons, List.sum_cons]
    unfold stepT trF at h1 ⊢
    simp only at h1 h2 ⊢
    omega
theorem trH_fst (y : List Int → Int → Int) : ∀ (l : List (Bool × Int)) (s : List Int × List (Bool × Int)), (l.foldl (stepH y) s).1.length ≤ s.1.length + l.length
  | [], s => by simp
  | x :: l, s => by
    have h1 := trH_fst y l (stepH y s x)
    have h2 : (stepH y s x).1.length ≤ s.1.length + 1 := by unfold stepH; split <;> simp
    rw [List.foldl_cons, List.length_cons]
    omega
theorem sumT_take (l : List (List (List Int))) (k : Nat) : sumT (l.take k) ≤ sumT l := by
  unfold sumT
  conv => rhs; rw [← List.take_append_drop k l]
  rw [List.map_append, List.sum_append]
  omega
theorem sumT_at {l : List (List (List Int))} {k : Nat} {x : List (List Int)} (h : l[k]? = some x) : sumT (l.take k) + sumL x ≤ sumT l := by
  obtain ⟨h1, h2⟩ := List.getElem?_eq_some_iff.1 h
  have := sumT_take l (k + 1)
  unfold sumT at this ⊢
  rw [List.take_succ_eq_append_getElem h1, h2, List.map_append, List.sum_append] at this
  simpa using this
/-- How many roots there may be. -/
def sizeA (a : RA) : Nat := sumT a.ths + a.hs.length + a.q.length

theorem drop_cons {α : Type} {l : List α} {k : Nat} {x : α} (h : l[k]? = some x) : l.drop k = x :: l.drop (k + 1) := by
  obtain ⟨h1, h2⟩ := List.getElem?_eq_some_iff.1 h
  rw [List.drop_eq_getElem_cons h1, h2]

def St1 (R : Rts) (y : List Int → Int → Int) (i : Nat) (Rc : Rts) (pre : List Int) : Prop :=
  ∃ A' : List Thr, A'.length = i ∧ Rc = { R with ths := A' ++ R.ths.drop i } ∧ (pre, A'.map Thr.ls) = trT y [] ((R.ths.take i).map Thr.ls)
def St2 (R : Rts) (y : List Int → Int → Int) (A' : List Thr) (t : Thr) (B : List Thr) (pre0 : List Int) (j : Nat) (Rc : Rts) (pre : List Int) : Prop :=
  ∃ C' : List Frm, C'.length = j ∧ Rc = { R with ths := A' ++ ⟨t.v, C' ++ t.fs.drop j⟩ :: B } ∧ (pre, C'.map Frm.l) = trF y pre0 ((t.fs.take j).map Frm.l)
def St3 (R : Rts) (y : List Int → Int → Int) (A' : List Thr) (v : Value) (B : List Thr) (C' : List Frm) (f : Frm) (Dd : List Frm) (pre0 : List Int) (k : Nat) (Rc : Rts) (pre : List Int) : Prop :=
  ∃ l' : List Int, l'.length = k ∧ Rc = { R with ths := A' ++ ⟨v, C' ++ ⟨f.b, l' ++ f.l.drop k⟩ :: Dd⟩ :: B } ∧ (pre, l') = trL y pre0 (f.l.take k)
def St4 (R : Rts) (y : List Int → Int → Int) (T' : List Thr) (pre0 : List Int) (k : Nat) (Rc : Rts) (pre : List Int) : Prop :=
  ∃ H' : List (Bool × Int), H'.length = k ∧ Rc = { R with ths := T', hs := H' ++ R.hs.drop k } ∧ (pre, H') = trH y pre0 (R.hs.take k)
def St5 (R : Rts) (y : List Int → Int → Int) (T' : List Thr) (H' : List (Bool × Int)) (pre0 : List Int) (k : Nat) (Rc : Rts) (pre : List Int) : Prop :=
  ∃ q' : List Int, q'.length = k ∧ Rc = { R with ths := T', hs := H', q := q' ++ R.q.drop k } ∧ (pre, q') = trL y pre0 (R.q.take k)

theorem stepH_open {y : List Int → Int → Int} {pre : List Int} {x x' : Int} {H' : List (Bool × Int)} (h : ∀ acc, stepL y (pre, acc) x = ((stepL y (pre, []) x).1, acc ++ [x'])) : stepH y (pre, H') (true, x) = ((stepL y (pre, []) x).1, H' ++ [(true, x')]) := by
  have h1 := h []
  unfold stepL at h1 ⊢
  unfold stepH
  by_cases h0 : 0 < x
  · simp only [h0, if_true, List.nil_append, Prod.mk.injEq, List.cons.injEq, and_true, true_and] at h1 ⊢
    rw [h1]
  · simp only [h0, if_false, List.nil_append, Prod.mk.injEq, List.cons.injEq, and_true, true_and] at h1 ⊢
    rw [h1]
theorem stepH_shut {y : List Int → Int → Int} {pre : List Int} {x : Int} {H' : List (Bool × Int)} : stepH y (pre, H') (false, x) = (pre, H' ++ [(false, x)]) := by
  unfold stepH
  simp

set_option maxRecDepth 100000 in
set_option maxHeartbeats 6400000 in
theorem each_any {b0 g N : Nat} {R : Rts} {D : List Nat} {VS : Nat → List Int → World → Prop} {f : Nat} {fi : Array Value} {y : List Int → Int → Int} {w : World} (hR : RT b0 w g R) (hb0 : b0 ≤ w.heap.size)
    (hD : ∀ x ∈ D, x < w.heap.size ∧ x ∉ R.foot g) (h0 : ∀ n₀ W, w.heap.size ≤ n₀ → n₀ = W.heap.size → Fr [] w W → VS n₀ [] W) (hVi : ∀ n₀, w.heap.size ≤ n₀ → Vis n₀ N D f fi (VS n₀) y)
    (eg : ∀ args w, (callFunc f args).run Tryz.prog w = .ok (.enter f args) w) (hN : sizeA R.abs < N) (hq63 : R.q.length ≤ 9223372036854775807) :
    Calls Tryz.prog 53 #[.pointer (some ⟨g, 0, none⟩), .func (.func f) fi #[]] w fun e w' => e = .returned (.tuple #[]) ∧
      ∃ Rc, Ev b0 (w.heap.size + 1) g w.heap.size R D (VS (w.heap.size + 1)) f fi w Rc (updA y R.abs).1 w' ∧ Rc.abs = (updA y R.abs).2 := by
  obtain ⟨n₀, hn₀⟩ : ∃ n₀, w.heap.size + 1 = n₀ := ⟨_, rfl⟩
  rw [hn₀]
  have hwn : w.heap.size ≤ n₀ := by omega
  have HVI := Lib.hid (hVi n₀ hwn)
  have HEG := Lib.hid eg
  obtain ⟨o1, o2, o3, o4, o5⟩ := hR.ok
  have hfoot := hR.lt
  have HF : Hid (∀ x ∈ R.foot g, x < n₀ ∧ x ∉ D) := fun x hx => ⟨by have := hfoot x hx; omega, fun hd => (hD x hd).2 hx⟩
  have HBX : Hid (w.heap.size < n₀ ∧ w.heap.size ∉ R.foot g ∧ w.heap.size ∉ D) := ⟨by omega, fun hx => by have := hfoot _ hx; omega, fun hx => by have := (hD _ hx).1; omega⟩
  have HB0 : Hid (b0 ≤ n₀) := by show b0 ≤ n₀; omega
  obtain ⟨z, hz⟩ : ∃ z, z = w.alloc (.cells #[.func (.func f) fi #[]] 93) := ⟨_, rfl⟩
  have hfz : Fr [] w z := by rw [hz]; exact (Fr.refl _ _).alloc _
  have hzs : z.heap.size = n₀ := by rw [hz, ← hn₀]; simp
  have HE0 : Hid (Ev b0 n₀ g w.heap.size R D (VS n₀) f fi w R [] z) :=
    ⟨hR.nil hfz, rfl, h0 n₀ z hwn hzs.symm hfz, hfz.kb (by simp), by rw [hz]; exact Bk.new _ _ _, by omega⟩
  have HNN := Lib.hid hN
  obtain ⟨T, hT⟩ : ∃ T, R.ths.length = T := ⟨_, rfl⟩
  obtain ⟨H, hH⟩ : ∃ H, R.hs.length = H := ⟨_, rfl⟩
  obtain ⟨Q, hQ⟩ : ∃ Q, R.q.length = Q := ⟨_, rfl⟩
  rw [hT] at o1 o2
  rw [hH] at o5
  rw [hQ] at hq63
  have HTT := Lib.hid hT
  have HHH := Lib.hid hH
  have HQQ := Lib.hid hQ
  have c1 : z.cell? ⟨g, 1, none⟩ = some (.slice (some ⟨R.gT, 0, none⟩) T T) := by have := HE0.out.rt.B.cell 1; rw [hT] at this; exact this
  have HR := Lib.hid hR
  clear hR hD h0 hVi eg hN hfoot hfz hzs hT hH hQ hn₀ hwn
  go_enter Tryz.func53, Tryz.ntmps53
  go_upto_region 2 with fail
  rw [← hz]
  clear hz
  go_upto_region 3 with fail
  go_loopw [18] (fun i wr => ∃ k : Nat, k ≤ T ∧ i = .int .i64 k ∧ Hid (∃ Rc pre, Ev b0 n₀ g w.heap.size R D (VS n₀) f fi w Rc pre wr ∧ St1 R y k Rc pre)) (fun i _ => T - (intOf i).toNat)
  case atStart => exact ⟨0, by omega, rfl, R, [], HE0.out, [], rfl, by simp, rfl⟩
  case round =>
    clear c1 HE0
    obtain ⟨i, hi, rfl, hx⟩ := hrel
    obtain ⟨Rc, pre, hE, A', hA', rfl, hpre⟩ := hx.out
    by_cases hlt : i < T
    · obtain ⟨t, ht⟩ : ∃ t, R.ths[i]? = some t := ⟨_, List.getElem?_eq_getElem (by have := HTT.out; omega)⟩
      have hdr := drop_cons ht
      obtain ⟨B, hB⟩ : ∃ B, R.ths.drop (i + 1) = B := ⟨_, rfl⟩
      rw [hB] at hdr
      rw [hdr] at hE
      have ct := hE.rt.th_at (A := A') (t := t) (B := B) rfl
      rw [hA'] at ct
      obtain ⟨AA, cp, hv, hcp, hcm⟩ := (hE.rt.Fs t (by simp)).look
      obtain ⟨m, hm⟩ : ∃ m, t.fs.length = m := ⟨_, rfl⟩
      rw [hv, hm] at ct
      rw [hm] at hcp
      have hm6 : m ≤ 9223372036854775807 := by unfold maxLen at hcm; omega
      have HE1 := Lib.hid hE
      have HPRE := Lib.hid hpre
      have HA' := Lib.hid hA'
      have HTI := Lib.hid ht
      have HBD := Lib.hid hB
      have HV := Lib.hid hv
      have HM := Lib.hid hm
      have i0 : (0 : Int) ≤ (i : Int) := by omega
      have i1 : (i : Int) < (T : Int) := by omega
      clear hx hE hpre hA' ht hdr hB hv hm hcm hcp
      go_upto_region 6 with fail
      clear ct
      go_loopw [24] (fun jj wr => ∃ k : Nat, k ≤ m ∧ jj = .int .i64 k ∧ Hid (∃ Rc pre', Ev b0 n₀ g w.heap.size R D (VS n₀) f fi w Rc pre' wr ∧ St2 R y A' t B pre k Rc pre')) (fun jj _ => m - (intOf jj).toNat)
      case atStart => exact ⟨0, by omega, rfl, _, pre, HE1.out, [], rfl, rfl, rfl⟩
      case round =>
        clear HE1
        obtain ⟨j, hj, rfl, hx⟩ := hrel
        obtain ⟨Rc, pre1, hE, C', hC', rfl, hpre1⟩ := hx.out
        by_cases hlt2 : j < m
        · obtain ⟨fr, hfr⟩ : ∃ fr, t.fs[j]? = some fr := ⟨_, List.getElem?_eq_getElem (by have := HM.out; omega)⟩
          have hdr := drop_cons hfr
          obtain ⟨Dd, hDd⟩ : ∃ Dd, t.fs.drop (j + 1) = Dd := ⟨_, rfl⟩
          rw [hDd] at hdr
          rw [hdr] at hE
          obtain ⟨gb, off, cap, hv2, hcf⟩ := hE.rt.f_at (t := ⟨t.v, C' ++ fr :: Dd⟩) (by simp) (k := j) (f := fr) (by rw [← hC']; simp)
          have hlen2 : (⟨t.v, C' ++ fr :: Dd⟩ : Thr).fs.length = m := by
            have h1 := HM.out
            rw [← h1, ← List.take_append_drop j t.fs, hdr]
            simp [hC', Nat.min_eq_left (show j ≤ t.fs.length by omega)]
          rw [hlen2] at hv2
          have hv3 : t.v = .slice AA m cp := by have := HV.out; rw [HM.out] at this; exact this
          have hv2 : t.v = .slice (some ⟨gb, off, none⟩) m cap := hv2
          rw [hv3] at hv2
          injection hv2 with hv2 _ hv4
          subst hv2
          subst hv4
          have hroom := HR.out.room t (List.mem_of_getElem? HTI.out)
          have hls : t.ls[j]? = some fr.l := by unfold Thr.ls; rw [List.getElem?_map, hfr]; rfl
          have hfl : fr.l.length ≤ 4096 := by
            have := sumL_take_succ hls
            have := sumL_take_le t.ls (j + 1)
            omega
          obtain ⟨fl, hfl2⟩ : ∃ fl, fr.l.length = fl := ⟨_, rfl⟩
          unfold frV at hcf
          rw [hfl2] at hcf hfl
          have HE2 := Lib.hid hE
          have HPRE1 := Lib.hid hpre1
          have HC' := Lib.hid hC'
          have HFR := Lib.hid hfr
          have HDD := Lib.hid hDd
          have HFL := Lib.hid hfl2
          have j0 : (0 : Int) ≤ (j : Int) := by omega
          have j1 : (j : Int) < (m : Int) := by omega
          clear hx hE hpre1 hC' hfr hdr hDd hlen2 hv3 hroom hls hfl2
          go_upto_region 9 with fail
          clear hcf
          go_loopw [30] (fun kk wr => ∃ k : Nat, k ≤ fl ∧ kk = .int .i64 k ∧ Hid (∃ Rc pre', Ev b0 n₀ g w.heap.size R D (VS n₀) f fi w Rc pre' wr ∧ St3 R y A' t.v B C' fr Dd pre1 k Rc pre')) (fun kk _ => fl - (intOf kk).toNat)
          case atStart => exact ⟨0, by omega, rfl, _, pre1, HE2.out, [], rfl, rfl, rfl⟩
          case round =>
            clear HE2
            obtain ⟨k, hk, rfl, hx⟩ := hrel
            obtain ⟨Rc, pre2, hE, l', hl', rfl, hpre2⟩ := hx.out
            by_cases hlt3 : k < fl
            · obtain ⟨x, hx1⟩ : ∃ x, fr.l[k]? = some x := ⟨_, List.getElem?_eq_getElem (by have := HFL.out; omega)⟩
              have hdr := drop_cons hx1
              rw [hdr] at hE
              have hlenN : pre2.length < N := by
                have e1 := congrArg Prod.fst hpre2
                have e2 := congrArg Prod.fst HPRE1.out
                have e3 := congrArg Prod.fst HPRE.out
                simp only at e1 e2 e3
                have b1 := trL_fst y (fr.l.take k) (pre1, [])
                have b2 := trF_fst y ((t.fs.take j).map Frm.l) (pre, [])
                have b3 := trT_fst y ((R.ths.take i).map Thr.ls) ([], [])
                unfold trL at e1
                unfold trF at e2
                unfold trT at e3
                rw [← e1] at b1
                rw [← e2] at b2
                rw [← e3] at b3
                have s1 : sumL ((t.fs.take j).map Frm.l) + fr.l.length ≤ sumL t.ls := by
                  have hls : t.ls[j]? = some fr.l := by unfold Thr.ls; rw [List.getElem?_map, HFR.out]; rfl
                  have q1 := sumL_take_succ hls
                  have q2 := sumL_take_le t.ls (j + 1)
                  have q3 : (t.fs.take j).map Frm.l = t.ls.take j := by unfold Thr.ls; rw [List.map_take]
                  rw [q3]
                  omega
                have s2 : sumT ((R.ths.take i).map Thr.ls) + sumL t.ls ≤ sumT (R.ths.map Thr.ls) := by
                  rw [List.map_take]
                  exact sumT_at (by rw [List.getElem?_map, HTI.out]; rfl)
                have s3 := HNN.out
                unfold sizeA Rts.abs at s3
                have s4 : (fr.l.take k).length ≤ k := List.length_take_le _ _
                have s5 := HFL.out
                simp only [List.length_nil] at b1 b2 b3 s3
                omega
              have HCALL := Lib.hid (hE.slot (y := y) (N := N) HF.out HBX.out HB0.out HVI.out HEG.out hlenN rfl)
              rw [hl'] at HCALL
              have HPRE2 := Lib.hid hpre2
              have HL' := Lib.hid hl'
              have HX1 := Lib.hid hx1
              have k0 : (0 : Int) ≤ (k : Int) := by omega
              have k1 : (k : Int) < (fl : Int) := by omega
              clear hx hE hpre2 hl' hx1 hdr hlenN
              go_wp2_with fail
              refine (Calls.mono HCALL.out ?_)
              rintro e w2 ⟨rfl, x', hstep, hE2⟩
              have HST := Lib.hid hstep
              have HE3 := Lib.hid hE2
              clear hstep hE2 HCALL
              go_wp2_with fail
              go_roundw
              case rel => exact ⟨k + 1, by omega, by go_num, _, _, HE3.out, l' ++ [x'], by rw [List.length_append, HL'.out]; rfl, by simp, by
                rw [trL_succ y HX1.out, ← HPRE2.out, HST.out l']⟩
              case measure => simp [intOf]; omega
            · obtain rfl : fl = k := by omega
              have hall : fr.l.drop fl = [] := List.drop_eq_nil_of_le (by rw [HFL.out]; exact Nat.le_refl _)
              rw [hall, List.append_nil] at hE
              have hall2 : fr.l.take fl = fr.l := List.take_of_length_le (by rw [HFL.out]; exact Nat.le_refl _)
              rw [hall2] at hpre2
              have HE3 := Lib.hid hE
              have HPRE2 := Lib.hid hpre2
              clear hx hE hpre2 hall hall2 hl' hlt3 hk
              go_wp2_with fail
              go_roundw
              case rel =>
                refine ⟨j + 1, by omega, by go_num, _, _, HE3.out, C' ++ [⟨fr.b, l'⟩], by rw [List.length_append, HC'.out]; rfl, by rw [HDD.out]; simp, ?_⟩
                have hls : (t.fs.map Frm.l)[j]? = some fr.l := by rw [List.getElem?_map, HFR.out]; rfl
                rw [List.map_take, trF_succ y hls, ← List.map_take, ← HPRE1.out]
                unfold stepF
                simp only
                rw [← HPRE2.out]
                simp
              case measure => simp [intOf]; omega
        · obtain rfl : m = j := by omega
          have hall : t.fs.drop m = [] := List.drop_eq_nil_of_le (by rw [HM.out]; exact Nat.le_refl _)
          rw [hall, List.append_nil] at hE
          have hall2 : t.fs.take m = t.fs := List.take_of_length_le (by rw [HM.out]; exact Nat.le_refl _)
          rw [hall2] at hpre1
          have HE3 := Lib.hid hE
          have HPRE1 := Lib.hid hpre1
          clear hx hE hpre1 hall hall2 hC' hlt2 hj
          go_wp2_with fail
          go_roundw
          case rel =>
            refine ⟨i + 1, by omega, by go_num, _, _, HE3.out, A' ++ [⟨t.v, C'⟩], by rw [List.length_append, HA'.out]; rfl, by rw [HBD.out]; simp, ?_⟩
            have hls : (R.ths.map Thr.ls)[i]? = some t.ls := by rw [List.getElem?_map, HTI.out]; rfl
            rw [List.map_take, trT_succ y hls, ← List.map_take, ← HPRE.out]
            unfold stepT
            simp only
            have e : t.ls = t.fs.map Frm.l := rfl
            rw [e, ← HPRE1.out]
            simp [Thr.ls]
          case measure => simp [intOf]; omega
    · obtain rfl : T = i := by omega
      have hall : R.ths.drop T = [] := List.drop_eq_nil_of_le (by rw [HTT.out]; exact Nat.le_refl _)
      rw [hall, List.append_nil] at hE
      have hall2 : R.ths.take T = R.ths := List.take_of_length_le (by rw [HTT.out]; exact Nat.le_refl _)
      rw [hall2] at hpre
      have HE4 := Lib.hid hE
      have HPRE := Lib.hid hpre
      have c2 : wr.cell? ⟨g, 2, none⟩ = some (.slice (some ⟨R.gH, 0, none⟩) H H) := by have := hE.rt.B.cell 2; rw [← HHH.out]; exact this
      clear hx hE hpre hall hall2 hA' hlt hi
      have HPT : Hid (pre = (trT y [] R.abs.ths).1 ∧ A'.map Thr.ls = (trT y [] R.abs.ths).2) := ⟨congrArg Prod.fst HPRE.out, congrArg Prod.snd HPRE.out⟩
      clear HPRE
      go_upto_region 16 with fail
      clear c2
      go_loopw [46] (fun kk wr => ∃ k : Nat, k ≤ H ∧ kk = .int .i64 k ∧ Hid (∃ Rc pre', Ev b0 n₀ g w.heap.size R D (VS n₀) f fi w Rc pre' wr ∧ St4 R y A' pre k Rc pre')) (fun kk _ => H - (intOf kk).toNat)
      case atStart => exact ⟨0, by omega, rfl, _, pre, HE4.out, [], rfl, rfl, rfl⟩
      case round =>
        clear HE4
        obtain ⟨k, hk, rfl, hx⟩ := hrel
        obtain ⟨Rc, pre2, hE, H', hH', rfl, hpre2⟩ := hx.out
        have hlenH : (H' ++ R.hs.drop k).length = H := by rw [List.length_append, hH', List.length_drop, HHH.out]; omega
        by_cases hlt : k < H
        · obtain ⟨⟨o, x⟩, hp⟩ : ∃ p, R.hs[k]? = some p := ⟨_, List.getElem?_eq_getElem (by have := HHH.out; omega)⟩
          have hdr := drop_cons hp
          have c2 : wr.cell? ⟨g, 2, none⟩ = some (.slice (some ⟨R.gH, 0, none⟩) H H) := by have := hE.rt.B.cell 2; rw [← hlenH]; exact this
          rw [hdr] at hE
          have hat : (H' ++ (o, x) :: R.hs.drop (k + 1))[k]? = some (o, x) := by rw [← hH']; simp
          obtain ⟨ck, ck1⟩ := hE.rt.h_at hat
          have ck : wr.cell? ⟨R.gH, k * 2, none⟩ = some (.bool o) := ck
          have hlenN : pre2.length < N := by
            have e1 := congrArg Prod.fst hpre2
            have e3 := HPT.out.1
            simp only at e1
            have b1 := trH_fst y (R.hs.take k) (pre, [])
            have b3 := trT_fst y R.abs.ths ([], [])
            unfold trH at e1
            unfold trT at e3
            rw [← e1] at b1
            rw [← e3] at b3
            have s3 := HNN.out
            unfold sizeA Rts.abs at s3
            unfold Rts.abs at b3
            have s4 : (R.hs.take k).length ≤ k := List.length_take_le _ _
            have s5 := HHH.out
            simp only [List.length_nil] at b1 b3 s3
            omega
          have HPRE2 := Lib.hid hpre2
          have HH' := Lib.hid hH'
          have HX1 := Lib.hid hp
          have k0 : (0 : Int) ≤ (k : Int) := by omega
          have k1 : (k : Int) < (H : Int) := by omega
          cases o with
          | true =>
            have HCALL := Lib.hid (hE.handle (y := y) (N := N) HF.out HBX.out HVI.out HEG.out hlenN rfl)
            rw [hH'] at HCALL
            clear hx hE hpre2 hH' hp hdr hlenN hlenH hat ck1
            go_wp2_with fail
            refine (Calls.mono HCALL.out ?_)
            rintro e w2 ⟨rfl, x', hstep, hE2⟩
            have HST := Lib.hid hstep
            have HE3 := Lib.hid hE2
            clear hstep hE2 HCALL ck
            go_wp2_with fail
            go_roundw
            case rel => exact ⟨k + 1, by omega, by go_num, _, _, HE3.out, H' ++ [(true, x')], by rw [List.length_append, HH'.out]; rfl, by simp, by
              rw [trH_succ y HX1.out, ← HPRE2.out, stepH_open HST.out]⟩
            case measure => simp [intOf]; omega
          | false =>
            have HE3 := Lib.hid hE
            clear hx hE hpre2 hH' hp hdr hlenN hlenH hat ck1
            go_wp2_with fail
            go_roundw
            case rel => exact ⟨k + 1, by omega, by go_num, _, _, HE3.out, H' ++ [(false, x)], by rw [List.length_append, HH'.out]; rfl, by simp, by
              rw [trH_succ y HX1.out, ← HPRE2.out, stepH_shut]⟩
            case measure => simp [intOf]; omega
        · obtain rfl : H = k := by omega
          have hall : R.hs.drop H = [] := List.drop_eq_nil_of_le (by rw [HHH.out]; exact Nat.le_refl _)
          rw [hall, List.append_nil] at hE
          have hall2 : R.hs.take H = R.hs := List.take_of_length_le (by rw [HHH.out]; exact Nat.le_refl _)
          rw [hall2] at hpre2
          have HE5 := Lib.hid hE
          have HPH : Hid (pre2 = (trH y (trT y [] R.abs.ths).1 R.abs.hs).1 ∧ H' = (trH y (trT y [] R.abs.ths).1 R.abs.hs).2) := by
            rw [HPT.out.1] at hpre2
            exact ⟨congrArg Prod.fst hpre2, congrArg Prod.snd hpre2⟩
          obtain ⟨A, cq, hvq, _, hcm⟩ := hE.rt.Q.look
          have hvq : R.vq = .slice A R.q.length cq := hvq
          rw [HQQ.out] at hvq
          have HVQ := Lib.hid hvq
          have c3 : wr.cell? ⟨g, 3, none⟩ = some (.slice A Q cq) := by have := hE.rt.B.cell 3; rw [← hvq]; exact this
          clear hx hE hpre2 hall hall2 hH' hlt hk hlenH hvq hcm
          go_upto_region 22 with fail
          clear c3
          go_loopw [72] (fun kk wr => ∃ k : Nat, k ≤ Q ∧ kk = .int .i64 k ∧ Hid (∃ Rc pre', Ev b0 n₀ g w.heap.size R D (VS n₀) f fi w Rc pre' wr ∧ St5 R y A' H' pre2 k Rc pre')) (fun kk _ => Q - (intOf kk).toNat)
          case atStart => exact ⟨0, by omega, rfl, _, pre2, HE5.out, [], rfl, rfl, rfl⟩
          case round =>
            clear HE5
            obtain ⟨k, hk, rfl, hx⟩ := hrel
            obtain ⟨Rc, pre3, hE, q', hq', rfl, hpre3⟩ := hx.out
            by_cases hlt : k < Q
            · obtain ⟨x, hp⟩ : ∃ p, R.q[k]? = some p := ⟨_, List.getElem?_eq_getElem (by have := HQQ.out; omega)⟩
              have hdr := drop_cons hp
              rw [hdr] at hE
              have c3 : wr.cell? ⟨g, 3, none⟩ = some (.slice A Q cq) := by have := hE.rt.B.cell 3; rw [← HVQ.out]; exact this
              obtain ⟨qb, off, cap, hv2, _⟩ := hE.rt.Q.form (by show 0 < (q' ++ x :: R.q.drop (k + 1)).length; simp; omega)
              have hlenQ : (q' ++ x :: R.q.drop (k + 1)).length = Q := by rw [List.length_append, List.length_cons, hq', List.length_drop, HQQ.out]; omega
              have hv2 : R.vq = .slice (some ⟨qb, off, none⟩) (q' ++ x :: R.q.drop (k + 1)).length cap := hv2
              rw [hlenQ, HVQ.out] at hv2
              injection hv2 with hv2 _ hv4
              subst hv2
              subst hv4
              have hlenN : pre3.length < N := by
                have e1 := congrArg Prod.fst hpre3
                have e2 := HPH.out.1
                simp only at e1
                have b1 := trL_fst y (R.q.take k) (pre2, [])
                have b2 := trH_fst y R.abs.hs ((trT y [] R.abs.ths).1, [])
                have b3 := trT_fst y R.abs.ths ([], [])
                unfold trL at e1
                unfold trH at e2
                rw [← e1] at b1
                rw [← e2] at b2
                have e3 : (List.foldl (stepT y) ([], []) R.abs.ths) = trT y [] R.abs.ths := rfl
                rw [e3] at b3
                have s3 := HNN.out
                unfold sizeA at s3
                have s4 : (R.q.take k).length ≤ k := List.length_take_le _ _
                have s5 := HQQ.out
                have s6 : R.abs.q.length = R.q.length := rfl
                have s7 : R.abs.hs.length = R.hs.length := rfl
                simp only [List.length_nil] at b1 b2 b3 s3
                omega
              have HCALL := Lib.hid (hE.queue (y := y) (N := N) HF.out HBX.out HB0.out HVI.out HEG.out hlenN rfl HVQ.out)
              rw [hq'] at HCALL
              have HPRE3 := Lib.hid hpre3
              have HQ' := Lib.hid hq'
              have HX1 := Lib.hid hp
              have k0 : (0 : Int) ≤ (k : Int) := by omega
              have k1 : (k : Int) < (Q : Int) := by omega
              clear hx hE hpre3 hq' hp hdr hlenN hlenQ
              go_wp2_with fail
              refine (Calls.mono HCALL.out ?_)
              rintro e w2 ⟨rfl, x', hstep, hE2⟩
              have HST := Lib.hid hstep
              have HE3 := Lib.hid hE2
              clear hstep hE2 HCALL
              go_wp2_with fail
              go_roundw
              case rel => exact ⟨k + 1, by omega, by go_num, _, _, HE3.out, q' ++ [x'], by rw [List.length_append, HQ'.out]; rfl, by simp, by
                rw [trL_succ y HX1.out, ← HPRE3.out, HST.out q']⟩
              case measure => simp [intOf]; omega
            · obtain rfl : Q = k := by omega
              have hall : R.q.drop Q = [] := List.drop_eq_nil_of_le (by rw [HQQ.out]; exact Nat.le_refl _)
              rw [hall, List.append_nil] at hE
              have hall2 : R.q.take Q = R.q := List.take_of_length_le (by rw [HQQ.out]; exact Nat.le_refl _)
              rw [hall2, HPH.out.1] at hpre3
              have e1 : pre3 = (updA y R.abs).1 := congrArg Prod.fst hpre3
              have e2 : ({ R with ths := A', hs := H', q := q' } : Rts).abs = (updA y R.abs).2 := by
                unfold updA Rts.abs
                simp only
                have a1 := HPT.out.2
                have a2 := HPH.out.2
                have a3 := congrArg Prod.snd hpre3
                unfold Rts.abs at a1 a2 a3
                simp only at a1 a2 a3
                rw [a1, a2, a3]
              rw [e1] at hE
              have HE6 := Lib.hid hE
              have HE2 := Lib.hid e2
              clear hx hE hpre3 hall hall2 hq' hlt hk e1 e2
              go_wp2_with fail
              go_returns
              exact ⟨rfl, _, HE6.out, HE2.out⟩
end Go.Proofs.YtdcppdgnekhcgaaGreatDoor
