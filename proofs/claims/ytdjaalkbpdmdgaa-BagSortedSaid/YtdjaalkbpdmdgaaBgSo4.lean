/-
  Bag: the statement BagSorted.
-/
import Derived.Test.YtdjaalkbpdmdgaaBgSo3
namespace Go.Proofs.Ytdjaalkbpdmdgaa
open Go.RowKit Go.Shelf
set_option linter.unusedVariables false

theorem RdI.take {w : World} {A : Option Addr} {l : List Int} (h : RdI w A l) (k : Nat) : RdI w A (l.take k) :=
  ⟨by rw [List.length_take]; have := h.1; omega, fun h0 => by
    rw [List.length_take] at h0
    obtain ⟨b, o, e, hb, hc⟩ := h.2 (by omega)
    refine ⟨b, o, e, hb, fun i x hx => hc i x ?_⟩
    rw [List.getElem?_take] at hx
    split at hx
    · exact hx
    · cases hx⟩
theorem RdI.at {w : World} {A : Option Addr} {l : List Int} (h : RdI w A l) {k : Nat} (hk : k < l.length) : ∃ b o x, A = some ⟨b, o, none⟩ ∧ b < w.heap.size ∧ l[k]? = some x ∧ w.cell? ⟨b, o + k, none⟩ = some (.int .i64 x) := by
  obtain ⟨b, o, e, hb, hc⟩ := h.2 (by omega)
  exact ⟨b, o, l[k], e, hb, List.getElem?_eq_getElem hk, hc k _ (List.getElem?_eq_getElem hk)⟩

set_option maxRecDepth 100000 in
set_option maxHeartbeats 6400000 in
theorem sorted_any (A B : Option Addr) (n c n2 c2 : Nat) (l1 l2 : List Int) (ask : Int) (w : World) (hn : n = l1.length) (hnc : n ≤ c) (hc : c ≤ 9223372036854775807) (hr : RdI w A l1) (hn2 : n2 = l2.length) (hnc2 : n2 ≤ c2) (hc2 : c2 ≤ 9223372036854775807) (hr2 : RdI w B l2) :
    Calls Try.prog 4 #[.slice A n c, .slice B n2 c2, .int .i64 ask] w fun e w' => e = .returned (.bool true) ∧ Fr [] w w' := by
  obtain ⟨l, hl⟩ : ∃ l, l1.take 500 = l := ⟨_, rfl⟩
  obtain ⟨d, hd⟩ : ∃ d, l2.take 500 = d := ⟨_, rfl⟩
  obtain ⟨m, hm⟩ : ∃ m, l.length = m := ⟨_, rfl⟩
  obtain ⟨s, hs⟩ : ∃ s, d.length = s := ⟨_, rfl⟩
  have hmn : m = min n 500 := by rw [← hm, ← hl, List.length_take, hn]; omega
  have hsn : s = min n2 500 := by rw [← hs, ← hd, List.length_take, hn2]; omega
  have hm5 : m ≤ 500 := by omega
  have hs5 : s ≤ 500 := by omega
  have HR1 : Hid (RdI w A l) := by show RdI w A l; rw [← hl]; exact hr.take _
  have HR2 : Hid (RdI w B d) := by show RdI w B d; rw [← hd]; exact hr2.take _
  have HM := Lib.hid hm
  have HS := Lib.hid hs
  clear hr hr2 hl hd hm hs hn hn2
  go_enter Try.func4, Try.ntmps4
  go_wp2_with fail
  obtain ⟨z0, hz0⟩ : ∃ z0, z0 = w.alloc (.cells #[.int .i64 ask] 3) := ⟨_, rfl⟩
  obtain ⟨ba, hba⟩ : ∃ ba, ba = w.heap.size := ⟨_, rfl⟩
  have HFW : Hid (Fr [] w z0) := by show Fr [] w z0; rw [hz0]; exact (Fr.refl _ _).alloc _
  have HBM : Hid (Bk z0 ba 3 #[.int .i64 ask]) := by show Bk z0 ba _ _; rw [hz0, hba]; exact Bk.new _ _ _
  rw [← hz0]
  rw [← hba]
  clear hz0 hba
  have HR1 := Lib.hid (HR1.out.fr HFW.out (by simp))
  have HR2 := Lib.hid (HR2.out.fr HFW.out (by simp))
  refine (known_any z0).mono ?_
  rintro e w1 ⟨rfl, hf1⟩
  have HF1 := Lib.hid hf1
  clear hf1
  go_wp2_with fail
  refine (tbN_new z0.heap.size w1 HF1.out.size).mono ?_
  rintro e w2 ⟨g, rfl, hT, hf, hg⟩
  have HT2 := Lib.hid hT
  have HF2 := Lib.hid (HF1.out.trans hf (by simp))
  clear hT hf hg HF1
  go_upto_region 4 with fail
  obtain ⟨z2, hz2⟩ : ∃ z2, z2 = w2.alloc (.cells #[.pointer (some ⟨g, 0, none⟩)] 38) := ⟨_, rfl⟩
  obtain ⟨bt, hbt⟩ : ∃ bt, bt = w2.heap.size := ⟨_, rfl⟩
  have hf : Fr [] w2 z2 := by rw [hz2]; exact (Fr.refl _ _).alloc _
  have HT3 := Lib.hid (HT2.out.fr hf (by simp) (by simp))
  have HF3 := Lib.hid (HF2.out.trans hf (by simp))
  have HB3 : Hid (Bk z2 bt 38 #[.pointer (some ⟨g, 0, none⟩)]) := by show Bk z2 bt _ _; rw [hz2, hbt]; exact Bk.new _ _ _
  rw [← hz2]
  rw [← hbt]
  clear hf hz2 hbt HT2 HF2
  have c_t := HB3.out.cell 0
  go_wp2_with fail
  refine (few_any A n c z2 hnc hc).mono ?_
  rintro e w3 ⟨⟨m', c', hm', rfl⟩, rfl⟩
  obtain rfl : m' = m := by omega
  clear hm' hmn hnc hc c_t
  go_upto_region 7 with fail
  obtain ⟨z3, hz3⟩ : ∃ z3, z3 = z2.alloc (.cells #[.slice A m' c'] 22) := ⟨_, rfl⟩
  obtain ⟨bl, hbl⟩ : ∃ bl, bl = z2.heap.size := ⟨_, rfl⟩
  have hf : Fr [] z2 z3 := by rw [hz3]; exact (Fr.refl _ _).alloc _
  have HX : Hid (So z0 bt bl g A m' c' [] z3) := ⟨⟨_, HT3.out.fr hf (by simp) (by simp)⟩, HF3.out.trans hf (by simp), HB3.out.fr hf (by simp), by rw [hz3, hbl]; exact Bk.new _ _ _⟩
  rw [← hz3]
  rw [← hbl]
  clear hf hz3 hbl HT3 HF3 HB3
  go_wp2_with fail
  refine (few_any B n2 c2 z3 hnc2 hc2).mono ?_
  rintro e w3 ⟨⟨s', c3, hs', rfl⟩, rfl⟩
  obtain rfl : s' = s := by omega
  clear hs' hsn hnc2 hc2
  go_upto_region 9 with fail
  go_loopw [10] (fun i wr => ∃ k : Nat, k ≤ m' ∧ i = .int .i64 k ∧ Hid (∃ T, FI l k T ∧ So z0 bt bl g A m' c' T wr)) (fun i _ => m' - (intOf i).toNat)
  case atStart => exact ⟨0, by omega, rfl, [], FI.nil l, HX.out⟩
  case round =>
    obtain ⟨k, hk, rfl, hx⟩ := hrel
    obtain ⟨T, hFI, hSo⟩ := hx.out
    have HFI := Lib.hid hFI
    have HSo := Lib.hid hSo
    have c_l := hSo.l.cell 0
    clear hFI hSo hx
    by_cases hlt : k < m'
    · obtain ⟨b, o, x, rfl, hbl, hlx, hcx⟩ := HR1.out.at (k := k) (by rw [HM.out]; exact hlt)
      have i0 : (0 : Int) ≤ (k : Int) := by omega
      have i1 : (k : Int) < (m' : Int) := by omega
      have i2 : IntKind.u64.wrap (k : Int) = (k : Int) := by rw [IntKind.wrap_u64]; omega
      have HLX := Lib.hid hlx
      have HCX := Lib.hid hcx
      have HBL := Lib.hid hbl
      clear hlx hcx hbl
      go_upto_region 11 with fail
      obtain ⟨z, hz⟩ : ∃ z, z = wr.drew := ⟨_, rfl⟩
      have HFz : Hid (So z0 bt bl g (some ⟨b, o, none⟩) m' c' T z) := by rw [hz]; exact HSo.out.nil ((Fr.refl [] wr).drew)
      have d1 := HFz.out.t.cell 0
      have d2 := HFz.out.l.cell 0
      have d3 : z.cell? ⟨b, o + k, none⟩ = some (.int .i64 x) := (World.cell?_of_block (HFz.out.fr.block b HBL.out (by simp))).trans HCX.out
      have HZ1 := Lib.hid hz
      clear hz c_l HSo
      refine wp_region_still_tail 7 (by kernel_rfl) (by kernel_rfl) ?_
      change wpStill _ _ wr.drew _ _ _
      rw [← HZ1.out]
      simp only [List.take_succ_cons, List.take_zero, List.drop_succ_cons, List.drop_zero]
      repeat still_step
      refine wpStill_nil ?_
      change wpList _ _ _ _ _ wr.drew
      rw [← HZ1.out]
      go_wp2_with fail
      refine (HFz.out.set x (k : Nat) (by have := HFI.out.len; omega)).mono ?_
      rintro e w5 ⟨⟨r, rfl⟩, h5⟩
      have H5 := Lib.hid h5
      clear h5 d1 d2 d3 HFz
      go_wp2_with fail
      go_roundw
      case rel => exact ⟨k + 1, by omega, by go_num, _, HFI.out.set HLX.out, H5.out⟩
      case measure => simp [intOf]; omega
    · obtain rfl : k = m' := by omega
      clear hlt hk HX
      have HDI : Hid (DI l d 0 T) := DI.of (by rw [HM.out]; exact HFI.out) d
      go_upto_region 13 with fail
      go_loopw [11] (fun i wr => ∃ j : Nat, j ≤ s' ∧ i = .int .i64 j ∧ Hid (∃ T, DI l d j T ∧ So z0 bt bl g A k c' T wr)) (fun i _ => s' - (intOf i).toNat)
      case atStart => exact ⟨0, by omega, rfl, T, HDI.out, HSo.out⟩
      case round =>
        clear c_l HSo HDI HFI
        obtain ⟨j, hj, rfl, hx⟩ := hrel
        obtain ⟨T, hDI, hSo⟩ := hx.out
        have HDI := Lib.hid hDI
        have HSo := Lib.hid hSo
        clear hDI hSo hx
        by_cases hlt : j < s'
        · obtain ⟨b, o, x, rfl, hbl, hlx, hcx⟩ := HR2.out.at (k := j) (by rw [HS.out]; exact hlt)
          have i0 : (0 : Int) ≤ (j : Int) := by omega
          have i1 : (j : Int) < (s' : Int) := by omega
          have HLX := Lib.hid hlx
          have HCX := Lib.hid hcx
          have HBL := Lib.hid hbl
          clear hlx hcx hbl
          go_upto_region 15 with fail
          obtain ⟨z, hz⟩ : ∃ z, z = wr.drew := ⟨_, rfl⟩
          have HFz : Hid (So z0 bt bl g A k c' T z) := by rw [hz]; exact HSo.out.nil ((Fr.refl [] wr).drew)
          have d1 := HFz.out.t.cell 0
          have d3 : z.cell? ⟨b, o + j, none⟩ = some (.int .i64 x) := (World.cell?_of_block (HFz.out.fr.block b HBL.out (by simp))).trans HCX.out
          have HZ1 := Lib.hid hz
          clear hz HSo
          refine wp_region_still_tail 5 (by kernel_rfl) (by kernel_rfl) ?_
          change wpStill _ _ wr.drew _ _ _
          rw [← HZ1.out]
          simp only [List.take_succ_cons, List.take_zero, List.drop_succ_cons, List.drop_zero]
          repeat still_step
          refine wpStill_nil ?_
          change wpList _ _ _ _ _ wr.drew
          rw [← HZ1.out]
          go_wp2_with fail
          refine (HFz.out.drop x (by have := HDI.out.len; have := HM.out; omega)).mono ?_
          rintro e w5 ⟨⟨r, rfl⟩, h5⟩
          have H5 := Lib.hid h5
          clear h5 d1 d3 HFz
          go_wp2_with fail
          go_roundw
          case rel => exact ⟨j + 1, by omega, by go_num, _, HDI.out.drop HLX.out, H5.out⟩
          case measure => simp [intOf]; omega
        · obtain rfl : j = s' := by omega
          have hDI := HDI.out
          rw [← HS.out] at hDI
          have HDI := Lib.hid hDI
          clear hlt hj hDI
          go_upto_region 21 with fail
          obtain ⟨z, hz⟩ : ∃ z, z = ((((wr.alloc (.cells #[.int .i64 0] 3)).alloc (.cells #[.int .i64 0] 3)).alloc (.cells #[.int .i64 0] 3)).alloc (.cells #[.bool false] 4)).alloc (.cells #[.bool true] 4) := ⟨_, rfl⟩
          obtain ⟨bn, hbn⟩ : ∃ bn, bn = wr.heap.size := ⟨_, rfl⟩
          have hf : Fr [] wr z := by rw [hz]; exact ((((((Fr.refl [] wr).alloc _).alloc _).alloc _).alloc _).alloc _)
          have HSU : Hid (SU (bn + 1 + 1 + 1 + 1) bn (bn + 1) (bn + 1 + 1) (bn + 1 + 1 + 1) ask [] z) := by
            show SU _ _ _ _ _ _ _ z
            rw [hz, hbn]
            exact ⟨Bk.new_at _ _ _ _ (by simp), ((((Bk.new _ _ _).alloc _).alloc _).alloc _).alloc _, (((Bk.new_at _ _ _ _ (by simp)).alloc _).alloc _).alloc _, ((Bk.new_at _ _ _ _ (by simp)).alloc _).alloc _, (Bk.new_at _ _ _ _ (by simp)).alloc _⟩
          have HFz := Lib.hid hf
          have HSz := Lib.hid (HSo.out.nil hf)
          have HBN := Lib.hid hbn
          rw [← hz]
          rw [← hbn]
          clear hz hf hbn
          have c_t := HSz.out.t.cell 0
          go_wp2_with fail
          refine (table_all g z).mono ?_
          rintro e z4 ⟨rfl, hw⟩
          have hf4 : Fr [] z z4 := by rw [hw]; exact (Fr.refl _ _).alloc _
          have HXT : Hid (Bk z4 z.heap.size 38 #[.pointer (some ⟨g, 0, none⟩)]) := by rw [hw]; exact Bk.new _ _ _
          have HF4 : Hid (Fr [] wr z4) := HFz.out.trans hf4 (by simp)
          have HSU4 := Lib.hid (HSU.out.fr hf4)
          clear hw hf4 c_t HSU HSz HFz
          go_wp2_with fail
          have hlm := HM.out
          have hwalk := So.walk (w0 := z0) (bt := bt) (bl := bl) (g := g) (A := A) (c := c') (l := l) (d := d) (T := T) (wr := wr) (z := z4) (ask := ask) (ba := ba) (xt := z.heap.size) (by rw [hlm]; exact HSo.out) HF4.out HDI.out HSU4.out HXT.out
            (by have := HBN.out; intro x hx; simp only [List.mem_cons, List.not_mem_nil, or_false] at hx; omega) (by omega) HBM.out HR1.out (by omega)
          rw [hlm] at hwalk
          have HWALK := Lib.hid hwalk
          clear hwalk hlm
          refine (HWALK.out).mono ?_
          rintro e w4 ⟨rfl, hsu, hso⟩
          clear HWALK HXT HSo HF4 HSU4
          obtain ⟨q1, q2, q3, q4, q5⟩ := hsu
          have HQ1 := Lib.hid q1
          have HQ2 := Lib.hid q2
          have HQ4 := Lib.hid q4
          have HQ5 := Lib.hid q5
          have HSo := Lib.hid hso
          clear q1 q2 q3 q4 q5 hso
          have c_t := HSo.out.t.cell 0
          have c_a := (HBM.out.fr HSo.out.fr (by simp)).cell 0
          have HTL : Hid (T.length ≤ 500) := by have := HDI.out.len; have := HM.out; show T.length ≤ 500; omega
          cases hnk : nearK T ask
          all_goals
            rw [hnk] at HQ4 HQ5
            have HNK := Lib.hid hnk
            clear hnk
            go_wp2_with fail
            first
              | (refine (HSo.out.near_none HDI.out.rise ask (by have := HTL.out; omega) HNK.out).mono ?_
                 rintro e w5 ⟨rfl, h5⟩)
              | (refine (HSo.out.near_some HDI.out.rise ask _ (by have := HTL.out; omega) HNK.out).mono ?_
                 rintro e w5 ⟨⟨u, rfl⟩, h5⟩)
            have HS5 := Lib.hid (HSo.out.nil h5)
            have k1 := (HQ1.out.fr h5 (by simp)).cell 0
            have k2 := (HQ2.out.fr h5 (by simp)).cell 0
            have k4 := (HQ4.out.fr h5 (by simp)).cell 0
            have k5 := (HQ5.out.fr h5 (by simp)).cell 0
            have k3 := HS5.out.t.cell 0
            have HLN : Hid (∀ n, Calls Try.prog 25 #[.pointer (some ⟨g, 0, none⟩)] (w5.drewN n) fun e w' => e = .returned (.int .i64 (T.length : Nat)) ∧ w5.drewN n = w') := fun n => (HS5.out.nil ((Fr.refl [] w5).drewN n)).len
            obtain ⟨tl, htl⟩ : ∃ tl, T.length = tl := ⟨_, rfl⟩
            rw [htl] at HLN k2
            clear h5 c_t c_a HSo htl
            go_upto_region 23 with fail
            go_quiet ((go_at_call 25; exact qleft (HLN.out _)))
            rename_i nq _
            obtain ⟨w6, hw6⟩ : ∃ w6, w6 = w5.drewN nq := ⟨_, rfl⟩
            have HS6 : Hid (So z0 bt bl g A k c' T w6) := by show So z0 bt bl g A k c' T w6; rw [hw6]; exact HS5.out.nil ((Fr.refl [] w5).drewN nq)
            rw [← hw6]
            clear hw6 k1 k2 k3 k4 k5 HS5 HLN
            go_upto_region 26 with fail
            go_loopw [20] (fun i wr => ∃ p : Nat, p ≤ k ∧ i = .int .i64 p ∧ Hid (So z0 bt bl g A k c' T wr)) (fun i _ => k - (intOf i).toNat)
            case atStart => exact ⟨0, by omega, rfl, HS6.out⟩
            case round =>
              clear HS6
              obtain ⟨p, hp, rfl, HSo⟩ := hrel
              have c_l := HSo.out.l.cell 0
              by_cases hlt : p < k
              · obtain ⟨b, o, x, rfl, hbl, hlx, hcx⟩ := HR1.out.at (k := p) (by rw [HM.out]; exact hlt)
                have i0 : (0 : Int) ≤ (p : Int) := by omega
                have i1 : (p : Int) < (k : Int) := by omega
                have HLX := Lib.hid hlx
                have HCX := Lib.hid hcx
                have HBL := Lib.hid hbl
                clear hlx hcx hbl
                go_upto_region 30 with fail
                go_loopw [21, 22] (fun gn i wr => ∃ r : Nat, r ≤ j ∧ i = .int .i64 r ∧ Hid (gn = .bool (goneB d r x)) ∧ Hid (So z0 bt bl g (some ⟨b, o, none⟩) k c' T wr)) (fun _ i _ => j - (intOf i).toNat)
                case atStart => exact ⟨0, by omega, rfl, rfl, HSo.out⟩
                case round =>
                  clear HSo c_l
                  obtain ⟨r, hr, rfl, HG, HSo⟩ := hrel
                  by_cases hlt2 : r < j
                  · obtain ⟨b2, o2, y, rfl, hbl2, hly, hcy⟩ := HR2.out.at (k := r) (by rw [HS.out]; exact hlt2)
                    have c_l := HSo.out.l.cell 0
                    have j0 : (0 : Int) ≤ (r : Int) := by omega
                    have j1 : (r : Int) < (j : Int) := by omega
                    have cx := (World.cell?_of_block (HSo.out.fr.block b HBL.out (by simp))).trans HCX.out
                    have cy := (World.cell?_of_block (HSo.out.fr.block b2 hbl2 (by simp))).trans hcy
                    have HSUCC := Lib.hid (goneB_succ (x := x) hly)
                    clear hbl2 hly hcy
                    have hgn := HG.out
                    subst hgn
                    have fin : ∀ (q : Bool) (n : Nat), Hid (q = (goneB d r x || y == x)) → Hid (Value.bool q = .bool (goneB d (r + 1) x)) ∧ Hid (So z0 bt bl g (some ⟨b, o, none⟩) k c' T (wr.drewN n)) := fun q n hq => ⟨by show Value.bool q = _; rw [hq.out, HSUCC.out], HSo.out.nil ((Fr.refl [] wr).drewN n)⟩
                    have FIN := Lib.hid fin
                    clear fin HG
                    cases hgb : goneB d r x
                    · by_cases hxy : y = x
                      · subst hxy
                        have he : (y == y) = true := by simp
                        have HQ : Hid (true = (goneB d r y || y == y)) := by show true = _; rw [hgb, he]; rfl
                        clear hgb HSUCC HLX HCX
                        go_upto_region 32 with fail
                        go_quiet (fail)
                        rename_i nq _
                        obtain ⟨r1, r2⟩ := FIN.out true nq HQ
                        obtain ⟨w7, hw7⟩ : ∃ w7, w7 = wr.drewN nq := ⟨_, rfl⟩
                        rw [← hw7] at r2 ⊢
                        clear hw7 FIN
                        go_wp2_with fail
                        go_roundw
                        case rel => exact ⟨r + 1, by omega, by go_num, r1, r2⟩
                        case measure => simp [intOf]; omega
                      · have he : (y == x) = false := by simpa using hxy
                        have HQ : Hid (false = (goneB d r x || y == x)) := by show false = _; rw [hgb, he]; rfl
                        clear hgb HSUCC HLX HCX hxy
                        go_upto_region 32 with fail
                        go_quiet (fail)
                        rename_i nq _
                        obtain ⟨r1, r2⟩ := FIN.out false nq HQ
                        obtain ⟨w7, hw7⟩ : ∃ w7, w7 = wr.drewN nq := ⟨_, rfl⟩
                        rw [← hw7] at r2 ⊢
                        clear hw7 FIN
                        go_wp2_with fail
                        go_roundw
                        case rel => exact ⟨r + 1, by omega, by go_num, r1, r2⟩
                        case measure => simp [intOf]; omega
                    · have HQ : Hid (true = (goneB d r x || y == x)) := by show true = _; rw [hgb]; rfl
                      clear hgb HSUCC HLX HCX
                      go_upto_region 32 with fail
                      go_quiet (fail)
                      rename_i nq _
                      obtain ⟨r1, r2⟩ := FIN.out true nq HQ
                      obtain ⟨w7, hw7⟩ : ∃ w7, w7 = wr.drewN nq := ⟨_, rfl⟩
                      rw [← hw7] at r2 ⊢
                      clear hw7 FIN
                      go_wp2_with fail
                      go_roundw
                      case rel => exact ⟨r + 1, by omega, by go_num, r1, r2⟩
                      case measure => simp [intOf]; omega
                  · obtain rfl : r = j := by omega
                    have hgn := HG.out
                    subst hgn
                    clear HG hlt2 hr
                    have hsl := HS.out
                    have c_l := HSo.out.l.cell 0
                    have c_t := HSo.out.t.cell 0
                    have d3 : wr.cell? ⟨b, o + p, none⟩ = some (.int .i64 x) := (World.cell?_of_block (HSo.out.fr.block b HBL.out (by simp))).trans HCX.out
                    have HDD : Hid (DI l d d.length T) := by show DI l d d.length T; first | exact HDI.out | (rw [hsl]; exact HDI.out)
                    cases hgb : goneB d r x
                    · rw [← hsl] at hgb
                      obtain ⟨q, g1, g2, g3, g4⟩ := HDD.out.get_yes HLX.out hgb
                      have HQ2' : Hid (q < l.length ∧ l[q]? = some x ∧ p ≤ q) := ⟨g2, g3, g1⟩
                      have HGET : Hid (∀ n, Calls Try.prog 23 #[.pointer (some ⟨g, 0, none⟩), .int .i64 x] (wr.drewN n) fun e w' => e = .returned (.tuple #[.int .u64 (q : Nat), .bool true]) ∧ wr.drewN n = w') := fun n => (HSo.out.nil ((Fr.refl [] wr).drewN n)).get_some x (q : Nat) (by have := HTL.out; omega) g4
                      clear g1 g2 g3 g4 hgb hsl HDD
                      go_upto_region 33 with fail
                      go_quiet ((go_at_call 23; exact qleft (HGET.out _)))
                      rename_i nq _
                      obtain ⟨w8, hw8⟩ : ∃ w8, w8 = wr.drewN nq := ⟨_, rfl⟩
                      have HS8 : Hid (So z0 bt bl g (some ⟨b, o, none⟩) k c' T w8) := by rw [hw8]; exact HSo.out.nil ((Fr.refl [] wr).drewN nq)
                      rw [← hw8]
                      clear hw8 c_l c_t d3 HSo HGET
                      have e2 := HS8.out.l.cell 0
                      have e3 : w8.cell? ⟨b, o + p, none⟩ = some (.int .i64 x) := (World.cell?_of_block (HS8.out.fr.block b HBL.out (by simp))).trans HCX.out
                      have e4 : w8.cell? ⟨b, o + q, none⟩ = some (.int .i64 x) := by
                        refine (World.cell?_of_block (HS8.out.fr.block b HBL.out (by simp))).trans ?_
                        obtain ⟨b', o', e', _, hc'⟩ := HR1.out.2 (by have := HQ2'.out.1; omega)
                        injection e' with e'
                        injection e' with e1 e2
                        subst e1 e2
                        exact hc' q x HQ2'.out.2.1
                      have q0 : (0 : Int) ≤ (q : Int) := by omega
                      have q1 : (q : Int) < (k : Int) := by have := HQ2'.out.1; have := HM.out; omega
                      have q2 : decide ((q : Int) < (p : Int)) = false := decide_eq_false (by have := HQ2'.out.2.2; omega)
                      have q2n : decide (q < p) = false := decide_eq_false (by have := HQ2'.out.2.2; omega)
                      have q3 : IntKind.u64.wrap (p : Int) = (p : Int) := by rw [IntKind.wrap_u64]; omega
                      have q4 : (x != x) = false := by simp
                      go_upto_region 34 with fail
                      go_quiet (fail)
                      rename_i nq _
                      obtain ⟨w9, hw9⟩ : ∃ w9, w9 = w8.drewN nq := ⟨_, rfl⟩
                      have HS9 : Hid (So z0 bt bl g (some ⟨b, o, none⟩) k c' T w9) := by rw [hw9]; exact HS8.out.nil ((Fr.refl [] w8).drewN nq)
                      rw [← hw9]
                      clear hw9 e2 e3 e4
                      go_wp2_with fail
                      go_roundw
                      case rel => exact ⟨p + 1, by omega, by go_num, HS9.out⟩
                      case measure => simp [intOf]; omega
                    · rw [← hsl] at hgb
                      have hg4 := HDD.out.get_no hgb
                      have HGET : Hid (∀ n, Calls Try.prog 23 #[.pointer (some ⟨g, 0, none⟩), .int .i64 x] (wr.drewN n) fun e w' => e = .returned (.tuple #[.int .u64 0, .bool false]) ∧ wr.drewN n = w') := fun n => (HSo.out.nil ((Fr.refl [] wr).drewN n)).get_none x (by have := HTL.out; omega) hg4
                      clear hg4 hgb hsl HDD
                      go_upto_region 33 with fail
                      go_quiet ((go_at_call 23; exact qleft (HGET.out _)))
                      rename_i nq _
                      obtain ⟨w8, hw8⟩ : ∃ w8, w8 = wr.drewN nq := ⟨_, rfl⟩
                      have HS8 : Hid (So z0 bt bl g (some ⟨b, o, none⟩) k c' T w8) := by rw [hw8]; exact HSo.out.nil ((Fr.refl [] wr).drewN nq)
                      rw [← hw8]
                      clear hw8 c_l c_t d3 HSo HGET
                      go_upto_region 34 with fail
                      go_quiet (fail)
                      rename_i nq _
                      obtain ⟨w9, hw9⟩ : ∃ w9, w9 = w8.drewN nq := ⟨_, rfl⟩
                      have HS9 : Hid (So z0 bt bl g (some ⟨b, o, none⟩) k c' T w9) := by rw [hw9]; exact HS8.out.nil ((Fr.refl [] w8).drewN nq)
                      rw [← hw9]
                      clear hw9
                      go_wp2_with fail
                      go_roundw
                      case rel => exact ⟨p + 1, by omega, by go_num, HS9.out⟩
                      case measure => simp [intOf]; omega
              · obtain rfl : p = k := by omega
                have HF : Hid (Fr [] w wr) := HFW.out.trans HSo.out.fr (by simp)
                go_wp2_with fail
                go_ret
                exact ⟨rfl, HF.out⟩
end Go.Proofs.Ytdjaalkbpdmdgaa
