/-
  Roots: the statement RootsHandles.
-/
import Derived.Test.YtdjemkgnhohcdaaRtH1
namespace Go.Proofs.Ytdjemkgnhohcdaa
open Go.RowKit
set_option linter.unusedVariables false

/-- Handles' numbers as whole numbers. -/
def mI (mine : List Nat) : List Int := mine.map Int.ofNat
theorem mI_at {mine : List Nat} {i q : Nat} (h : mine[i]? = some q) : (mI mine)[i]? = some (q : Int) := by
  unfold mI
  rw [List.getElem?_map, h]
  rfl

set_option maxRecDepth 100000 in
set_option maxHeartbeats 12800000 in
theorem handles_st (T S H : Int) (A B : Option Addr) (n c n2 c2 : Nat) (l : List Oq) (vals : List Int) (w : World) (hT : inI T) (hS : inI S) (hH : inI H)
    (hn : n = l.length) (hr : RdO w A l) (hn2 : n2 = vals.length) (hr2 : RdI w B vals) (hv2 : n2 ≤ 17592186043904) :
    Calls Try.prog 6 #[.int .i64 T, .int .i64 S, .int .i64 H, .slice A n c, .slice B n2 c2] w fun e w' => e = .returned (.bool true) ∧ Fr [] w w' := by
  have HG : Hid ((goalA T S H l).q.length ≤ 2200000000000 ∧ nnH (goalA T S H l).hs ∧ (goalA T S H l).hs.length ≤ 1024) := by
    have q := playL_q l (newA (1 + placeF T 8).toNat (1 + placeF S 40).toNat (placeF H 12).toNat)
    have k := playL_keep l (newA (1 + placeF T 8).toNat (1 + placeF S 40).toNat (placeF H 12).toNat)
    have e0 : (newA (1 + placeF T 8).toNat (1 + placeF S 40).toNat (placeF H 12).toNat).q = [] := rfl
    rw [e0] at q
    have := hr.1
    obtain ⟨p0, p1⟩ := placeF_in H 12 (by omega)
    refine ⟨?_, ?_, ?_⟩
    · unfold goalA
      simp only [List.length_nil] at q
      omega
    · unfold goalA
      exact playL_nn l (fun p hp => by obtain ⟨_, e⟩ := List.mem_replicate.1 hp; rw [e]; exact Int.le_refl _)
    · unfold goalA
      rw [k.2.2]
      simp [newA]
      omega
  have HINI := Lib.hid (And.intro hT (And.intro hS hH))
  have HN := Lib.hid hn
  have HN2 := Lib.hid hn2
  have HR := Lib.hid hr
  have HR2 := Lib.hid hr2
  clear hT hS hH hn hr hn2 hr2
  go_enter Try.func6, Try.ntmps6
  go_wp2_with fail
  refine (known_any w).mono ?_
  rintro e w1 ⟨rfl, hf1⟩
  have HF1 := Lib.hid hf1
  clear hf1
  go_wp2_with fail
  refine (played_any T S H A n c l w1 w1 HINI.out.1 HINI.out.2.1 HINI.out.2.2 HN.out (HR.out.fr HF1.out) (Fr.refl _ _) (Nat.le_refl _)).mono ?_
  rintro e w2 ⟨g, F, rfl, hsn, _⟩
  obtain ⟨a, ha⟩ : ∃ a, goalA T S H l = a := ⟨_, rfl⟩
  rw [ha] at hsn HG
  have HSN := Lib.hid hsn
  clear hsn ha
  go_wp2_with fail
  refine (handles_any HSN.out.rs).mono ?_
  intro e w3 hnl
  obtain ⟨vs, rfl, hvs, hf3⟩ := NewL.nl hnl
  have HVS := Lib.hid hvs
  have HF3 := Lib.hid hf3
  have HSN3 := Lib.hid (HSN.out.nil hf3)
  clear hnl hvs hf3
  go_wp2_with fail
  refine (tops_any HSN3.out.rs).mono ?_
  rintro e w4 ⟨vb, rfl, hll, hf4⟩
  have HW1 : Hid (∀ W, Fr [] w1 W → Fr [] w W) := fun W hW => HF1.out.trans hW (by simp)
  have HSX : Hid (Sx w1 g w2.heap.size w4.heap.size vb (topsA a) vs (handlesA a) a (.slice none 0 0) [] w4) :=
    Sc.sx ⟨F, HSN3.out.nil hf4, fun x hx => .inl (HSN.out.rs.lt x hx), hll.widen HF3.out.size (Nat.le_refl _), (HVS.out.fr hf4 (by simp)).widen (Nat.le_refl _) hf4.size, Nat.le_refl _⟩ (Nat.le_trans (HSN.out.fr.size) (Nat.le_trans HF3.out.size hf4.size))
  obtain ⟨lo, hlo⟩ : ∃ lo, w2.heap.size = lo := ⟨_, rfl⟩
  obtain ⟨hi, hhi⟩ : ∃ hi, w4.heap.size = hi := ⟨_, rfl⟩
  rw [hlo, hhi] at HSX
  obtain ⟨i2, hi2, hz2, hs2, hb2⟩ := info_parts int_info
  clear hll hf4 HVS HF3 HSN HSN3 hlo hhi
  go_upto_region 10 with fail
  go_loopw [15, 16] (fun vm i wr => ∃ k : Nat, k ≤ n2 ∧ i = .int .i64 k ∧ Hid (∃ a' mine, Sx w1 g lo hi vb (topsA a) vs (handlesA a) a' vm (mI mine) wr ∧ In1 a.hs vals k a'.hs mine ∧ nnH a'.hs ∧ a'.ths = a.ths ∧ a'.q = a.q)) (fun _ i _ => n2 - (intOf i).toNat)
  case atStart => exact ⟨0, by omega, rfl, a, [], (by show Sx w1 g lo hi vb (topsA a) vs (handlesA a) a (.slice none 0 0) [] w4; exact HSX.out), In1.nil _ _, HG.out.2.1, rfl, rfl⟩
  case round =>
    clear HSX
    obtain ⟨k, hk, rfl, hx⟩ := hrel
    obtain ⟨a', mine, hsx, hin, hnn, hths, hqq⟩ := hx.out
    have HSX := Lib.hid hsx
    have HIN := Lib.hid hin
    have HNN := Lib.hid hnn
    have HTH := Lib.hid hths
    have HQQ := Lib.hid hqq
    clear hx hsx hin hnn hths hqq
    by_cases hlt : k < n2
    · obtain ⟨b, o, rfl, hbl, hcell⟩ := HR2.out.2 (by have := HN2.out; omega)
      obtain ⟨v, hv⟩ : ∃ v, vals[k]? = some v := ⟨_, List.getElem?_eq_getElem (by have := HN2.out; omega)⟩
      have HCV : Hid (∀ W, Fr [] w1 W → W.cell? ⟨b, o + k, none⟩ = some (.int .i64 v)) := fun W hW => (World.cell?_of_block ((HW1.out W hW).block b hbl (by simp))).trans (hcell k v hv)
      have HV := Lib.hid hv
      have i0 : (0 : Int) ≤ (k : Int) := by omega
      have i1 : (k : Int) < (n2 : Int) := by omega
      obtain ⟨nh, hnh⟩ : ∃ nh, a'.hs.length = nh := ⟨_, rfl⟩
      have hnh4 : nh ≤ 1024 := by have := HIN.out.same; have := HG.out.2.2; omega
      have HNH := Lib.hid hnh
      clear hv hcell hbl hnh
      go_wp2_with fail
      refine (HSX.out.sc.ask (fun F hF => handles_any hF)).mono ?_
      intro e w5 hnl
      obtain ⟨vn, rfl, hvn, hf5⟩ := NewL.nl hnl
      obtain ⟨An, cn, rfl, _, _⟩ := hvn.look
      have hlen : (handlesA a').length = nh := by unfold handlesA; rw [List.length_map]; exact HNH.out
      rw [hlen] at hvn ⊢
      have HSX5 := Lib.hid (HSX.out.nil hf5)
      have HRN := Lib.hid hvn.rd.2
      have HLEN := Lib.hid hlen
      have hw1 : IntKind.i64.wrap ((nh : Int) - 1) = (nh : Int) - 1 := IntWalk.i64_in _ (by omega)
      clear hnl hvn hf5 hlen
      go_upto_region 15 with fail
      go_loop [17, 19] (fun fv jv => ∃ j : Nat, j ≤ nh ∧ jv = .int .i64 ((j : Int) - 1) ∧ Hid (fv = .int .i64 (frF a'.hs j))) (fun _ jv => (intOf jv + 1).toNat)
      case atStart => exact ⟨nh, Nat.le_refl _, rfl, by show Value.int .i64 (-1) = .int .i64 (frF a'.hs nh); rw [← HNH.out, frF_end]⟩
      case round =>
        obtain ⟨j, hj, rfl, HFV⟩ := hrel
        rcases Nat.eq_zero_or_pos j with hj0 | hj0
        · subst hj0
          have hd : decide ((0 : Int) ≤ ((0 : Nat) : Int) - 1) = false := by decide
          have hd2 : decide ((0 : Int) ≤ (-1 : Int)) = false := by decide
          have hfv := HFV.out
          rw [frF_zero] at hfv
          subst hfv
          have cv := HCV.out w5 HSX5.out.sc.frm
          clear HFV
          cases hfi : a'.hs.findIdx? (fun p => !p.1) with
          | none =>
            have ho : openA a' v = (a', 0, 56) := by unfold openA; rw [hfi]
            have HO := Lib.hid ho
            clear ho hfi
            go_wp2_with fail
            refine (HSX5.out.call (a' := (openA a' v).1) (r := .tuple #[.int .i64 (openA a' v).2.1, .int .i64 (openA a' v).2.2]) (fun F hF hb => open_any hF v)).mono ?_
            rw [HO.out]
            rintro e w6 ⟨rfl, h6⟩
            have HSX := Lib.hid h6
            clear h6 cv HSX5 HCV HRN
            have hlm := HSX.out.lst
            obtain ⟨Am, cm, rfl, hcm1, hcm2⟩ := hlm.look
            have hlmI : (mI mine).length = k := by unfold mI; rw [List.length_map]; exact HIN.out.len
            rw [hlmI] at hcm1 ⊢
            have HLM := Lib.hid hlmI
            have Hk : Hid (k ≤ n2) := by show k ≤ n2; omega
            have hK6 : k ≤ 9223372036854775807 := by unfold maxLen at hcm2; omega
            have HSX : Hid (Sx w1 g lo hi vb (topsA a) vs (handlesA a) a' (.slice Am k cm) (mI mine) w6) := by
              have := HSX.out
              rw [hlmI] at this
              exact this
            have HIN3 := Lib.hid HIN.out.to3
            have HML := Lib.hid HIN.out.len
            clear hlm hlmI hcm1 hcm2
            go_upto_region 27 with fail
            go_loopw [22] (fun i wr => ∃ j : Nat, j ≤ k ∧ i = .int .i64 j ∧ Hid (∃ a3, Sx w1 g lo hi vb (topsA a) vs (handlesA a) a3 (.slice Am k cm) (mI mine) wr ∧ In3 a.hs vals mine j a3.hs ∧ a3.ths = a.ths ∧ a3.q = a.q)) (fun i _ => k - (intOf i).toNat)
            case atStart => exact ⟨0, by omega, rfl, a', HSX.out, HIN3.out, HTH.out, HQQ.out⟩
            case round =>
              clear HSX HIN3 HTH HQQ
              obtain ⟨j, hj, rfl, hx⟩ := hrel
              obtain ⟨a3, hsx, hin, hths, hqq⟩ := hx.out
              have HSX := Lib.hid hsx
              have HIN3 := Lib.hid hin
              have HTH := Lib.hid hths
              have HQQ := Lib.hid hqq
              clear hx hsx hin hths hqq
              by_cases hlt2 : j < k
              · obtain ⟨q, hq⟩ : ∃ q, mine[j]? = some q := ⟨_, List.getElem?_eq_getElem (by have := HML.out; omega)⟩
                obtain ⟨v, hv, hqv⟩ := HIN3.out.got j q (Nat.le_refl _) hq
                obtain ⟨b', o', hB', hbl, hcell⟩ := HR2.out.2 (by have := HN2.out; have := Hk.out; omega)
                have HCV : Hid (∀ W, Fr [] w1 W → W.cell? ⟨b', o' + j, none⟩ = some (.int .i64 v)) := fun W hW => (World.cell?_of_block ((HW1.out W hW).block b' hbl (by simp))).trans (hcell j v hv)
                have hqm := mI_at hq
                have HCM : Hid (∀ (W : World) (b3 : RA), Sx w1 g lo hi vb (topsA a) vs (handlesA a) b3 (.slice Am k cm) (mI mine) W → ∃ mb mo, Am = some ⟨mb, mo, none⟩ ∧ W.cell? ⟨mb, mo + j, none⟩ = some (.int .i64 (q : Int))) := fun W b3 hW => by
                  obtain ⟨mb, mo, cap, hvm, _, _, _, _, _, _, hc⟩ := hW.lst.form (by rw [HLM.out]; omega)
                  injection hvm with hvm _ _
                  exact ⟨mb, mo, hvm, hc j _ (iV_at hqm)⟩
                obtain ⟨h1, h2⟩ := handleA_at hqv
                obtain ⟨a4, ha4⟩ : ∃ a4, ({ a3 with hs := a3.hs.set q (false, 0) } : RA) = a4 := ⟨_, rfl⟩
                have h3 : closeA a4 (q : Int) = (a4, 55) := closeA_shut (x := 0) (by rw [← ha4]; exact List.getElem?_set_self (List.getElem?_eq_some_iff.1 hqv).1)
                rw [ha4] at h2
                have HA4 : Hid (In3 a.hs vals mine (j + 1) a4.hs ∧ a4.ths = a.ths ∧ a4.q = a.q) := by rw [← ha4]; exact ⟨HIN3.out.step hq, HTH.out, HQQ.out⟩
                obtain ⟨mb, mo, rfl, cm1⟩ := HCM.out wr a3 HSX.out
                clear hbl hcell
                first
                  | subst hB'
                  | (injection hB' with hB'
                     injection hB' with e1 e2
                     subst e1 e2)
                have i0 : (0 : Int) ≤ (j : Int) := by omega
                have i1 : (j : Int) < (k : Int) := by omega
                have i2' : (j : Int) < (n2 : Int) := by have := Hk.out; omega
                have cv := HCV.out wr HSX.out.sc.frm
                have HH1 := Lib.hid h1
                have HH2 := Lib.hid h2
                have HH3 := Lib.hid h3
                clear hq hv hqv hqm h1 h2 h3 ha4
                rcases (show 0 ≤ v ∨ v < 0 by omega) with hx0 | hx0
                · go_wp2_with fail
                  refine (HSX.out.sc.ask (fun F hF => handle_any hF (q : Int))).mono ?_
                  rw [HH1.out]
                  rintro e w' ⟨rfl, rfl⟩
                  have hmx : max v 0 = v := by omega
                  rw [hmx]
                  have hxx : ((v : Int) != v) = false := by simp
                  clear hmx
                  go_wp2_with fail
                  refine (HSX.out.call (a' := (closeA a3 (q : Int)).1) (r := .int .i64 (closeA a3 (q : Int)).2) (fun F hF hb => close_any hF (q : Int))).mono ?_
                  rw [HH2.out]
                  rintro e w6 ⟨rfl, h6⟩
                  have H6 := Lib.hid h6
                  obtain ⟨mb2, mo2, hm2, cm2⟩ := HCM.out w6 a4 h6
                  injection hm2 with hm2
                  injection hm2 with e1 e2
                  subst e1 e2
                  clear h6
                  go_wp2_with fail
                  refine (H6.out.call (a' := (closeA a4 (q : Int)).1) (r := .int .i64 (closeA a4 (q : Int)).2) (fun F hF hb => close_any hF (q : Int))).mono ?_
                  rw [HH3.out]
                  rintro e w7 ⟨rfl, h7⟩
                  have H7 := Lib.hid h7
                  clear h7 cm2 cm1 cv
                  go_wp2_with fail
                  go_roundw
                  case rel => first | exact ⟨j + 1, by omega, by go_num, a4, H7.out, HA4.out⟩ | ((repeat apply Exists.intro); exact ⟨⟨j + 1, by omega, by go_num, a4, H7.out, HA4.out⟩, rfl⟩)
                  case measure => simp [intOf]; omega
                · go_wp2_with fail
                  refine (HSX.out.sc.ask (fun F hF => handle_any hF (q : Int))).mono ?_
                  rw [HH1.out]
                  rintro e w' ⟨rfl, rfl⟩
                  have hmx : max v 0 = 0 := by omega
                  rw [hmx]
                  have hxx : ((0 : Int) != 0) = false := by simp
                  clear hmx
                  go_wp2_with fail
                  refine (HSX.out.call (a' := (closeA a3 (q : Int)).1) (r := .int .i64 (closeA a3 (q : Int)).2) (fun F hF hb => close_any hF (q : Int))).mono ?_
                  rw [HH2.out]
                  rintro e w6 ⟨rfl, h6⟩
                  have H6 := Lib.hid h6
                  obtain ⟨mb2, mo2, hm2, cm2⟩ := HCM.out w6 a4 h6
                  injection hm2 with hm2
                  injection hm2 with e1 e2
                  subst e1 e2
                  clear h6
                  go_wp2_with fail
                  refine (H6.out.call (a' := (closeA a4 (q : Int)).1) (r := .int .i64 (closeA a4 (q : Int)).2) (fun F hF hb => close_any hF (q : Int))).mono ?_
                  rw [HH3.out]
                  rintro e w7 ⟨rfl, h7⟩
                  have H7 := Lib.hid h7
                  clear h7 cm2 cm1 cv
                  go_wp2_with fail
                  go_roundw
                  case rel => first | exact ⟨j + 1, by omega, by go_num, a4, H7.out, HA4.out⟩ | ((repeat apply Exists.intro); exact ⟨⟨j + 1, by omega, by go_num, a4, H7.out, HA4.out⟩, rfl⟩)
                  case measure => simp [intOf]; omega
              · obtain rfl : k = j := by omega
                have hdone : handlesA a3 = handlesA a := by
                  have h := HIN3.out
                  rw [← HML.out] at h
                  exact h.done
                have HDONE := Lib.hid hdone
                have HQ3 : Hid (a3.q.length ≤ 2200000000000) := by show a3.q.length ≤ _; rw [HQQ.out]; exact HG.out.1
                clear hdone hlt2 hj HIN3
                have hw0hi := HSX.out.w0hi
                have HW0H := Lib.hid hw0hi
                clear hw0hi
                go_wp2_with fail
                refine (HSX.out.sc.ask (fun F hF => queue_any hF (by have := HQ3.out; omega))).mono ?_
                rintro e w8 ⟨vq, rfl, hq1, hq2⟩
                have HSQ := Lib.hid (HSX.out.sc.put hq1 hq2 HW0H.out)
                obtain ⟨Q0, hQ0⟩ : ∃ Q0, a3.q = Q0 := ⟨_, rfl⟩
                have HQ3 : Hid (Q0.length ≤ 2200000000000) := by rw [← hQ0]; exact HQ3.out
                have HA3 : Hid (a3 = { a3 with q := Q0 }) := by rw [← hQ0]; exact Lib.hid rfl
                have HSQ : Hid (Sx w1 g lo hi vb (topsA a) vs (handlesA a) { a3 with q := Q0 ++ (vals.take 0).map (fun x => max x 0) } vq (Q0 ++ (vals.take 0).map (fun x => max x 0)) w8) := by
                  have h := HSQ.out
                  rw [hQ0] at h
                  simp only [List.take_zero, List.map_nil, List.append_nil]
                  rw [← HA3.out]
                  exact h
                clear hq1 hq2 hQ0 HQQ HSX
                go_upto_region 34 with fail
                go_loopw [25, 26] (fun vm i wr => ∃ k : Nat, k ≤ n2 ∧ i = .int .i64 k ∧ Hid (Sx w1 g lo hi vb (topsA a) vs (handlesA a) { a3 with q := Q0 ++ (vals.take k).map (fun x => max x 0) } vm (Q0 ++ (vals.take k).map (fun x => max x 0)) wr)) (fun _ i _ => n2 - (intOf i).toNat)
                case atStart => exact ⟨0, by omega, rfl, HSQ.out⟩
                case round =>
                  clear HSQ
                  obtain ⟨kq, hkq, rfl, HSQ⟩ := hrel
                  by_cases hltq : kq < n2
                  · obtain ⟨v, hv⟩ : ∃ v, vals[kq]? = some v := ⟨_, List.getElem?_eq_getElem (by have := HN2.out; omega)⟩
                    obtain ⟨b', o', hB', hbl, hcell⟩ := HR2.out.2 (by have := HN2.out; omega)
                    have HCV : Hid (∀ W, Fr [] w1 W → W.cell? ⟨b', o' + kq, none⟩ = some (.int .i64 v)) := fun W hW => (World.cell?_of_block ((HW1.out W hW).block b' hbl (by simp))).trans (hcell kq v hv)
                    have hsucc : Q0 ++ (vals.take (kq + 1)).map (fun x => max x 0) = (Q0 ++ (vals.take kq).map (fun x => max x 0)) ++ [max v 0] := by
                      obtain ⟨h1, h2⟩ := List.getElem?_eq_some_iff.1 hv
                      rw [List.take_succ_eq_append_getElem h1, h2]
                      simp
                    obtain ⟨QL, hQL⟩ : ∃ QL, Q0 ++ (vals.take kq).map (fun x => max x 0) = QL := ⟨_, rfl⟩
                    rw [hQL] at hsucc HSQ
                    have hqll : QL.length ≤ 19792186043904 := by
                      rw [← hQL, List.length_append, List.length_map, List.length_take]
                      have := HQ3.out
                      omega
                    obtain ⟨qn, hqn⟩ : ∃ qn, QL.length = qn := ⟨_, rfl⟩
                    have HQN := Lib.hid hqn
                    have HSUC := Lib.hid hsucc
                    rw [hqn] at hqll
                    clear hbl hcell
                    first
                      | subst hB'
                      | (injection hB' with hB'
                         injection hB' with e1 e2
                         subst e1 e2)
                    have i0 : (0 : Int) ≤ (kq : Int) := by omega
                    have i1 : (kq : Int) < (n2 : Int) := by omega
                    have cv := HCV.out wr HSQ.out.sc.frm
                    clear hv hsucc hQL hqn
                    rcases (show 0 ≤ v ∨ v < 0 by omega) with hx0 | hx0
                    · go_wp2_with fail
                      refine (HSQ.out.call (a' := enqA { a3 with q := QL } v) (r := .tuple #[]) (fun F hF hb => enq_any hF hb (by show QL.length ≤ _; rw [HQN.out]; omega) v)).mono ?_
                      rintro e w9 ⟨rfl, h9⟩
                      have h9 : Sx w1 g lo hi vb (topsA a) vs (handlesA a) { a3 with q := QL ++ [max v 0] } u25 QL w9 := h9
                      have hmx : max v 0 = v := by omega
                      rw [hmx] at h9 HSUC
                      have H9 := Lib.hid h9
                      have hl9 := h9.lst
                      rw [HQN.out] at hl9
                      have HL9 := Lib.hid hl9
                      have cv9 := HCV.out w9 h9.sc.frm
                      have hw9 := h9.hiw
                      clear h9 hl9 cv hmx
                      go_wp2_with (at_builtin; refine wpList_append_lst2 _ rfl (.tmp 153) (.tmp 159) _ rfl hi 3 i2 _ 1 8 Try.underlying31 hi2 hz2 hs2 hb2 rfl _ qn (iV QL) rfl (HL9.out.alloc _) ⟨w9.heap.size, 0, none⟩ 1 1 [.int .i64 v] rfl rfl (World.news_of_block (heap_alloc_new _ _)) ?c2 ?c3 ?c4 ?c5 ?c6)
                      case c2 => simp [Value.oneCell']
                      case c3 => unfold maxLen; omega
                      case c4 => intro old h1 h2; exact next_any h1 (by omega)
                      case c5 => first | omega | (simp; omega)
                      case c6 =>
                        intro v2 wb hown hgrow hat
                        have HB : Hid (Sx w1 g lo hi vb (topsA a) vs (handlesA a) { a3 with q := QL ++ [v] } v2 (QL ++ [v]) wb) :=
                          H9.out.grow (by rw [HQN.out]; exact hown) hgrow (by rcases hat with e | e; exact .inl e; exact .inr ⟨_, e, by simp⟩)
                        clear hown hgrow hat cv9
                        go_wp2_with fail
                        go_roundw
                        case rel => exact ⟨kq + 1, by omega, by go_num, by rw [HSUC.out]; exact HB.out⟩
                        case measure => simp [intOf]; omega
                    · go_wp2_with fail
                      refine (HSQ.out.call (a' := enqA { a3 with q := QL } v) (r := .tuple #[]) (fun F hF hb => enq_any hF hb (by show QL.length ≤ _; rw [HQN.out]; omega) v)).mono ?_
                      rintro e w9 ⟨rfl, h9⟩
                      have h9 : Sx w1 g lo hi vb (topsA a) vs (handlesA a) { a3 with q := QL ++ [max v 0] } u25 QL w9 := h9
                      have hmx : max v 0 = 0 := by omega
                      rw [hmx] at h9 HSUC
                      have H9 := Lib.hid h9
                      have hl9 := h9.lst
                      rw [HQN.out] at hl9
                      have HL9 := Lib.hid hl9
                      have cv9 := HCV.out w9 h9.sc.frm
                      have hw9 := h9.hiw
                      clear h9 hl9 cv hmx
                      go_wp2_with (at_builtin; refine wpList_append_lst2 _ rfl (.tmp 153) (.tmp 159) _ rfl hi 3 i2 _ 1 8 Try.underlying31 hi2 hz2 hs2 hb2 rfl _ qn (iV QL) rfl (HL9.out.alloc _) ⟨w9.heap.size, 0, none⟩ 1 1 [.int .i64 0] rfl rfl (World.news_of_block (heap_alloc_new _ _)) ?c2 ?c3 ?c4 ?c5 ?c6)
                      case c2 => simp [Value.oneCell']
                      case c3 => unfold maxLen; omega
                      case c4 => intro old h1 h2; exact next_any h1 (by omega)
                      case c5 => first | omega | (simp; omega)
                      case c6 =>
                        intro v2 wb hown hgrow hat
                        have HB : Hid (Sx w1 g lo hi vb (topsA a) vs (handlesA a) { a3 with q := QL ++ [0] } v2 (QL ++ [0]) wb) :=
                          H9.out.grow (by rw [HQN.out]; exact hown) hgrow (by rcases hat with e | e; exact .inl e; exact .inr ⟨_, e, by simp⟩)
                        clear hown hgrow hat cv9
                        go_wp2_with fail
                        go_roundw
                        case rel => exact ⟨kq + 1, by omega, by go_num, by rw [HSUC.out]; exact HB.out⟩
                        case measure => simp [intOf]; omega
                  · obtain rfl : n2 = kq := by omega
                    obtain ⟨Q, hQ⟩ : ∃ Q, Q0 ++ (vals.take n2).map (fun x => max x 0) = Q := ⟨_, rfl⟩
                    rw [hQ] at HSQ
                    obtain ⟨qn, hqn⟩ : ∃ qn, Q.length = qn := ⟨_, rfl⟩
                    have HQN := Lib.hid hqn
                    obtain ⟨Aq, cq, rfl, hcq1, hcq2⟩ := HSQ.out.lst.look
                    rw [hqn] at hcq1 ⊢
                    have hq6 : qn ≤ 9223372036854775807 := by unfold maxLen at hcq2; omega
                    have HSQ : Hid (Sx w1 g lo hi vb (topsA a) vs (handlesA a) { a3 with q := Q.drop 0 } (.slice Aq qn cq) Q wr) := by
                      have h := HSQ.out
                      rw [hqn] at h
                      rw [List.drop_zero]
                      exact h
                    clear hQ hqn hltq hkq hcq1 hcq2 HQ3 HA3
                    go_upto_region 39 with fail
                    go_loopw [27] (fun i wr => ∃ k : Nat, k ≤ qn ∧ i = .int .i64 k ∧ Hid (Sx w1 g lo hi vb (topsA a) vs (handlesA a) { a3 with q := Q.drop k } (.slice Aq qn cq) Q wr)) (fun i _ => qn - (intOf i).toNat)
                    case atStart => exact ⟨0, by omega, rfl, HSQ.out⟩
                    case round =>
                      clear HSQ
                      obtain ⟨kx, hkx, rfl, HSQ⟩ := hrel
                      by_cases hltx : kx < qn
                      · obtain ⟨x, hx⟩ : ∃ x, Q[kx]? = some x := ⟨_, List.getElem?_eq_getElem (by have := HQN.out; omega)⟩
                        have HCM : Hid (∀ (W : World) (b3 : RA), Sx w1 g lo hi vb (topsA a) vs (handlesA a) b3 (.slice Aq qn cq) Q W → ∃ mb mo, Aq = some ⟨mb, mo, none⟩ ∧ W.cell? ⟨mb, mo + kx, none⟩ = some (.int .i64 x)) := fun W b3 hW => by
                          obtain ⟨mb, mo, cap, hvm, _, _, _, _, _, _, hc⟩ := hW.lst.form (by rw [HQN.out]; omega)
                          injection hvm with hvm _ _
                          exact ⟨mb, mo, hvm, hc kx _ (iV_at hx)⟩
                        have hdq : deqA { a3 with q := Q.drop kx } = ({ a3 with q := Q.drop (kx + 1) }, x, true) := by
                          unfold deqA
                          simp only [drop_cons hx]
                        have HDQ := Lib.hid hdq
                        obtain ⟨mb, mo, rfl, cm1⟩ := HCM.out wr _ HSQ.out
                        have i0 : (0 : Int) ≤ (kx : Int) := by omega
                        have i1 : (kx : Int) < (qn : Int) := by omega
                        have hxx : (x != x) = false := by simp
                        clear hx hdq
                        go_wp2_with fail
                        refine (HSQ.out.call (a' := (deqA { a3 with q := Q.drop kx }).1) (r := .tuple #[.int .i64 (deqA { a3 with q := Q.drop kx }).2.1, .bool (deqA { a3 with q := Q.drop kx }).2.2]) (fun F hF hb => deq_any hF hb)).mono ?_
                        rw [HDQ.out]
                        rintro e w6 ⟨rfl, h6⟩
                        have H6 := Lib.hid h6
                        obtain ⟨mb2, mo2, hm2, cm2⟩ := HCM.out w6 _ h6
                        injection hm2 with hm2
                        injection hm2 with e1 e2
                        subst e1 e2
                        clear h6 cm1
                        go_wp2_with fail
                        go_roundw
                        case rel => exact ⟨kx + 1, by omega, by go_num, H6.out⟩
                        case measure => simp [intOf]; omega
                      · obtain rfl : qn = kx := by omega
                        obtain ⟨a5, ha5⟩ : ∃ a5, ({ a3 with q := Q.drop qn } : RA) = a5 := ⟨_, rfl⟩
                        have hdq : deqA a5 = (a5, 0, false) := by
                          have h : a5.q = [] := by
                            rw [← ha5]
                            exact List.drop_eq_nil_of_le (by rw [HQN.out]; exact Nat.le_refl _)
                          unfold deqA
                          simp only [h]
                        have HDQ := Lib.hid hdq
                        have HD5 : Hid (handlesA a5 = handlesA a ∧ a5.ths = a.ths) := by
                          rw [← ha5]
                          exact ⟨HDONE.out, HTH.out⟩
                        rw [ha5] at HSQ
                        clear hdq ha5 hltx hkx
                        go_wp2_with fail
                        refine (HSQ.out.call (a' := (deqA a5).1) (r := .tuple #[.int .i64 (deqA a5).2.1, .bool (deqA a5).2.2]) (fun F hF hb => deq_any hF hb)).mono ?_
                        rw [HDQ.out]
                        rintro e w6 ⟨rfl, h6⟩
                        have H6 := Lib.hid h6
                        clear h6
                        go_wp2_with fail
                        refine (H6.out.sc.ask (fun F hF => handles_any hF)).mono ?_
                        intro e w7 hnl
                        obtain ⟨v7, rfl, hn7, hf7⟩ := NewL.nl hnl
                        rw [HD5.out.1] at hn7
                        obtain ⟨A7, c7, rfl, _, _⟩ := hn7.look
                        have H7 := Lib.hid (H6.out.nil hf7)
                        obtain ⟨A8, c8, rfl, _, _⟩ := H7.out.sc.lists.2.look
                        have HN7 := Lib.hid hn7.rd.2
                        have HN8 := Lib.hid H7.out.sc.lists.2.rd.2
                        clear hnl hn7 hf7
                        go_wp2_with fail
                        refine (same_yes A7 A8 (handlesA a) _ c7 c8 w7 rfl HN7.out HN8.out).mono ?_
                        rintro e w8 ⟨rfl, hf8⟩
                        have H8 := Lib.hid (H7.out.nil hf8)
                        clear hf8
                        go_wp2_with fail
                        refine (H8.out.sc.ask (fun F hF => tops_any hF)).mono ?_
                        rintro e w9 ⟨v9, rfl, hll, hf9⟩
                        rw [topsA_ths HD5.out.2] at hll
                        have H9 := Lib.hid (H8.out.nil hf9)
                        have HLL9 := Lib.hid hll
                        clear hll hf9
                        go_wp2_with fail
                        refine (sameAll_yes w9 H9.out.sc.lists.1 HLL9.out).mono ?_
                        rintro e w10 ⟨rfl, hf10⟩
                        have HF10 : Hid (Fr [] w w10) := HW1.out w10 (H9.out.sc.frm.trans hf10 (by simp))
                        clear hf10
                        go_wp2_with fail
                        go_ret
                        exact ⟨rfl, HF10.out⟩
          | some q =>
            have ho : openA a' v = ({ a' with hs := a'.hs.set q (true, max v 0) }, (q : Int), 0) := by unfold openA; rw [hfi]
            have HIN2 := Lib.hid (HIN.out.step HV.out hfi)
            obtain ⟨a2, ha2⟩ : ∃ a2, ({ a' with hs := a'.hs.set q (true, max v 0) } : RA) = a2 := ⟨_, rfl⟩
            have HA2 : Hid (In1 a.hs vals (k + 1) a2.hs (mine ++ [q]) ∧ nnH a2.hs ∧ a2.ths = a.ths ∧ a2.q = a.q) := by
              rw [← ha2]
              exact ⟨HIN2.out, nnH_set HNN.out _ _ (by simp; omega), HTH.out, HQQ.out⟩
            rw [ha2] at ho
            have HO := Lib.hid ho
            have q0 : decide ((q : Int) < 0) = false := decide_eq_false (by omega)
            have qq : ((q : Int) != (q : Int)) = false := by simp
            have hidx : idxI (some q) = (q : Int) := rfl
            rw [hidx]
            clear ho hfi HIN2 ha2 hidx
            go_wp2_with fail
            refine (HSX5.out.call (a' := (openA a' v).1) (r := .tuple #[.int .i64 (openA a' v).2.1, .int .i64 (openA a' v).2.2]) (fun F hF hb => open_any hF v)).mono ?_
            rw [HO.out]
            rintro e w6 ⟨rfl, h6⟩
            have H6 := Lib.hid h6
            have hlm := h6.lst
            have hml : (mI mine).length = k := by unfold mI; rw [List.length_map]; exact HIN.out.len
            rw [hml] at hlm
            have HLMM := Lib.hid hlm
            have HMLL := Lib.hid hml
            have hhw := h6.hiw
            clear h6 cv hlm hml
            go_wp2_with (at_builtin; refine wpList_append_lst2 _ rfl (.tmp 91) (.tmp 93) _ rfl hi 3 i2 _ 1 8 Try.underlying31 hi2 hz2 hs2 hb2 rfl _ k (iV (mI mine)) rfl (HLMM.out.alloc _) ⟨w6.heap.size, 0, none⟩ 1 1 [.int .i64 (q : Int)] rfl rfl (World.news_of_block (heap_alloc_new _ _)) ?c2 ?c3 ?c4 ?c5 ?c6)
            case c2 => simp [Value.oneCell']
            case c3 => unfold maxLen; omega
            case c4 => intro old h1 h2; exact next_any h1 (by omega)
            case c5 => first | omega | (simp; omega)
            case c6 =>
              intro v2 w7 hown hgrow hat
              have H7 : Hid (Sx w1 g lo hi vb (topsA a) vs (handlesA a) a2 v2 (mI (mine ++ [q])) w7) := by
                have e : mI (mine ++ [q]) = mI mine ++ [(q : Int)] := by unfold mI; rw [List.map_append]; rfl
                rw [e]
                exact H6.out.grow (by rw [HMLL.out]; exact hown) hgrow (by rcases hat with e | e; exact .inl e; exact .inr ⟨_, e, by simp⟩)
              clear hown hgrow hat
              go_wp2_with fail
              go_roundw
              case rel => exact ⟨k + 1, by omega, by go_num, a2, mine ++ [q], H7.out, HA2.out.1, HA2.out.2.1, HA2.out.2.2.1, HA2.out.2.2.2⟩
              case measure => simp [intOf]; omega
        · obtain ⟨q, rfl⟩ : ∃ q, j = q + 1 := ⟨j - 1, by omega⟩
          have e1 : ((q + 1 : Nat) : Int) - 1 = (q : Int) := by omega
          rw [e1]
          obtain ⟨⟨op, x⟩, hp⟩ : ∃ p, a'.hs[q]? = some p := ⟨_, List.getElem?_eq_getElem (by have := HNH.out; omega)⟩
          have hx0 := HNN.out _ (List.mem_of_getElem? hp)
          obtain ⟨nb, no, rfl, _, hcn⟩ := HRN.out.2 (by rw [HLEN.out]; omega)
          have cx := hcn q (if op then x else -1) (by unfold handlesA; rw [List.getElem?_map, hp]; rfl)
          have j0 : (0 : Int) ≤ (q : Int) := by omega
          have j1 : (q : Int) < (nh : Int) := by omega
          have hw2 : IntKind.i64.wrap ((q : Int) - 1) = (q : Int) - 1 := IntWalk.i64_in _ (by omega)
          have HP := Lib.hid hp
          clear hcn hp e1
          cases op with
          | true =>
            have hd3 : decide (x < 0) = false := decide_eq_false (by have : 0 ≤ x := hx0; omega)
            have cx : w5.cell? ⟨nb, no + q, none⟩ = some (.int .i64 x) := cx
            clear hx0
            go_wp2_with fail
            go_round
            case rel => exact ⟨q, by omega, by go_num, by rw [HFV.out, frF_open HP.out]; exact Lib.hid rfl⟩
            case measure => simp [intOf]; try omega
          | false =>
            have cx : w5.cell? ⟨nb, no + q, none⟩ = some (.int .i64 (-1)) := cx
            clear hx0
            go_wp2_with fail
            go_round
            case rel => exact ⟨q, by omega, by go_num, by rw [frF_shut HP.out]; exact Lib.hid rfl⟩
            case measure => simp [intOf]; try omega
    · obtain rfl : n2 = k := by omega
      have hlm := HSX.out.lst
      obtain ⟨Am, cm, rfl, hcm1, hcm2⟩ := hlm.look
      have hlmI : (mI mine).length = n2 := by unfold mI; rw [List.length_map]; exact HIN.out.len
      rw [hlmI] at hcm1 ⊢
      have HLM := Lib.hid hlmI
      have Hn2 : Hid (n2 ≤ n2) := by show n2 ≤ n2; omega
      have hK6 : n2 ≤ 9223372036854775807 := by unfold maxLen at hcm2; omega
      have HSX : Hid (Sx w1 g lo hi vb (topsA a) vs (handlesA a) a' (.slice Am n2 cm) (mI mine) wr) := by
        have := HSX.out
        rw [hlmI] at this
        exact this
      have HIN3 := Lib.hid HIN.out.to3
      have HML := Lib.hid HIN.out.len
      clear hlm hlmI hcm1 hcm2
      go_upto_region 27 with fail
      go_loopw [22] (fun i wr => ∃ j : Nat, j ≤ n2 ∧ i = .int .i64 j ∧ Hid (∃ a3, Sx w1 g lo hi vb (topsA a) vs (handlesA a) a3 (.slice Am n2 cm) (mI mine) wr ∧ In3 a.hs vals mine j a3.hs ∧ a3.ths = a.ths ∧ a3.q = a.q)) (fun i _ => n2 - (intOf i).toNat)
      case atStart => exact ⟨0, by omega, rfl, a', HSX.out, HIN3.out, HTH.out, HQQ.out⟩
      case round =>
        clear HSX HIN3 HTH HQQ
        obtain ⟨j, hj, rfl, hx⟩ := hrel
        obtain ⟨a3, hsx, hin, hths, hqq⟩ := hx.out
        have HSX := Lib.hid hsx
        have HIN3 := Lib.hid hin
        have HTH := Lib.hid hths
        have HQQ := Lib.hid hqq
        clear hx hsx hin hths hqq
        by_cases hlt2 : j < n2
        · obtain ⟨q, hq⟩ : ∃ q, mine[j]? = some q := ⟨_, List.getElem?_eq_getElem (by have := HML.out; omega)⟩
          obtain ⟨v, hv, hqv⟩ := HIN3.out.got j q (Nat.le_refl _) hq
          obtain ⟨b', o', hB', hbl, hcell⟩ := HR2.out.2 (by have := HN2.out; have := Hn2.out; omega)
          have HCV : Hid (∀ W, Fr [] w1 W → W.cell? ⟨b', o' + j, none⟩ = some (.int .i64 v)) := fun W hW => (World.cell?_of_block ((HW1.out W hW).block b' hbl (by simp))).trans (hcell j v hv)
          have hqm := mI_at hq
          have HCM : Hid (∀ (W : World) (b3 : RA), Sx w1 g lo hi vb (topsA a) vs (handlesA a) b3 (.slice Am n2 cm) (mI mine) W → ∃ mb mo, Am = some ⟨mb, mo, none⟩ ∧ W.cell? ⟨mb, mo + j, none⟩ = some (.int .i64 (q : Int))) := fun W b3 hW => by
            obtain ⟨mb, mo, cap, hvm, _, _, _, _, _, _, hc⟩ := hW.lst.form (by rw [HLM.out]; omega)
            injection hvm with hvm _ _
            exact ⟨mb, mo, hvm, hc j _ (iV_at hqm)⟩
          obtain ⟨h1, h2⟩ := handleA_at hqv
          obtain ⟨a4, ha4⟩ : ∃ a4, ({ a3 with hs := a3.hs.set q (false, 0) } : RA) = a4 := ⟨_, rfl⟩
          have h3 : closeA a4 (q : Int) = (a4, 55) := closeA_shut (x := 0) (by rw [← ha4]; exact List.getElem?_set_self (List.getElem?_eq_some_iff.1 hqv).1)
          rw [ha4] at h2
          have HA4 : Hid (In3 a.hs vals mine (j + 1) a4.hs ∧ a4.ths = a.ths ∧ a4.q = a.q) := by rw [← ha4]; exact ⟨HIN3.out.step hq, HTH.out, HQQ.out⟩
          obtain ⟨mb, mo, rfl, cm1⟩ := HCM.out wr a3 HSX.out
          clear hbl hcell
          first
            | subst hB'
            | (injection hB' with hB'
               injection hB' with e1 e2
               subst e1 e2)
          have i0 : (0 : Int) ≤ (j : Int) := by omega
          have i1 : (j : Int) < (n2 : Int) := by omega
          have i2' : (j : Int) < (n2 : Int) := by have := Hn2.out; omega
          have cv := HCV.out wr HSX.out.sc.frm
          have HH1 := Lib.hid h1
          have HH2 := Lib.hid h2
          have HH3 := Lib.hid h3
          clear hq hv hqv hqm h1 h2 h3 ha4
          rcases (show 0 ≤ v ∨ v < 0 by omega) with hx0 | hx0
          · go_wp2_with fail
            refine (HSX.out.sc.ask (fun F hF => handle_any hF (q : Int))).mono ?_
            rw [HH1.out]
            rintro e w' ⟨rfl, rfl⟩
            have hmx : max v 0 = v := by omega
            rw [hmx]
            have hxx : ((v : Int) != v) = false := by simp
            clear hmx
            go_wp2_with fail
            refine (HSX.out.call (a' := (closeA a3 (q : Int)).1) (r := .int .i64 (closeA a3 (q : Int)).2) (fun F hF hb => close_any hF (q : Int))).mono ?_
            rw [HH2.out]
            rintro e w6 ⟨rfl, h6⟩
            have H6 := Lib.hid h6
            obtain ⟨mb2, mo2, hm2, cm2⟩ := HCM.out w6 a4 h6
            injection hm2 with hm2
            injection hm2 with e1 e2
            subst e1 e2
            clear h6
            go_wp2_with fail
            refine (H6.out.call (a' := (closeA a4 (q : Int)).1) (r := .int .i64 (closeA a4 (q : Int)).2) (fun F hF hb => close_any hF (q : Int))).mono ?_
            rw [HH3.out]
            rintro e w7 ⟨rfl, h7⟩
            have H7 := Lib.hid h7
            clear h7 cm2 cm1 cv
            go_wp2_with fail
            go_roundw
            case rel => first | exact ⟨j + 1, by omega, by go_num, a4, H7.out, HA4.out⟩ | ((repeat apply Exists.intro); exact ⟨⟨j + 1, by omega, by go_num, a4, H7.out, HA4.out⟩, rfl⟩)
            case measure => simp [intOf]; omega
          · go_wp2_with fail
            refine (HSX.out.sc.ask (fun F hF => handle_any hF (q : Int))).mono ?_
            rw [HH1.out]
            rintro e w' ⟨rfl, rfl⟩
            have hmx : max v 0 = 0 := by omega
            rw [hmx]
            have hxx : ((0 : Int) != 0) = false := by simp
            clear hmx
            go_wp2_with fail
            refine (HSX.out.call (a' := (closeA a3 (q : Int)).1) (r := .int .i64 (closeA a3 (q : Int)).2) (fun F hF hb => close_any hF (q : Int))).mono ?_
            rw [HH2.out]
            rintro e w6 ⟨rfl, h6⟩
            have H6 := Lib.hid h6
            obtain ⟨mb2, mo2, hm2, cm2⟩ := HCM.out w6 a4 h6
            injection hm2 with hm2
            injection hm2 with e1 e2
            subst e1 e2
            clear h6
            go_wp2_with fail
            refine (H6.out.call (a' := (closeA a4 (q : Int)).1) (r := .int .i64 (closeA a4 (q : Int)).2) (fun F hF hb => close_any hF (q : Int))).mono ?_
            rw [HH3.out]
            rintro e w7 ⟨rfl, h7⟩
            have H7 := Lib.hid h7
            clear h7 cm2 cm1 cv
            go_wp2_with fail
            go_roundw
            case rel => first | exact ⟨j + 1, by omega, by go_num, a4, H7.out, HA4.out⟩ | ((repeat apply Exists.intro); exact ⟨⟨j + 1, by omega, by go_num, a4, H7.out, HA4.out⟩, rfl⟩)
            case measure => simp [intOf]; omega
        · obtain rfl : n2 = j := by omega
          have hdone : handlesA a3 = handlesA a := by
            have h := HIN3.out
            rw [← HML.out] at h
            exact h.done
          have HDONE := Lib.hid hdone
          have HQ3 : Hid (a3.q.length ≤ 2200000000000) := by show a3.q.length ≤ _; rw [HQQ.out]; exact HG.out.1
          clear hdone hlt2 hj HIN3
          have hw0hi := HSX.out.w0hi
          have HW0H := Lib.hid hw0hi
          clear hw0hi
          go_wp2_with fail
          refine (HSX.out.sc.ask (fun F hF => queue_any hF (by have := HQ3.out; omega))).mono ?_
          rintro e w8 ⟨vq, rfl, hq1, hq2⟩
          have HSQ := Lib.hid (HSX.out.sc.put hq1 hq2 HW0H.out)
          obtain ⟨Q0, hQ0⟩ : ∃ Q0, a3.q = Q0 := ⟨_, rfl⟩
          have HQ3 : Hid (Q0.length ≤ 2200000000000) := by rw [← hQ0]; exact HQ3.out
          have HA3 : Hid (a3 = { a3 with q := Q0 }) := by rw [← hQ0]; exact Lib.hid rfl
          have HSQ : Hid (Sx w1 g lo hi vb (topsA a) vs (handlesA a) { a3 with q := Q0 ++ (vals.take 0).map (fun x => max x 0) } vq (Q0 ++ (vals.take 0).map (fun x => max x 0)) w8) := by
            have h := HSQ.out
            rw [hQ0] at h
            simp only [List.take_zero, List.map_nil, List.append_nil]
            rw [← HA3.out]
            exact h
          clear hq1 hq2 hQ0 HQQ HSX
          go_upto_region 34 with fail
          go_loopw [25, 26] (fun vm i wr => ∃ k : Nat, k ≤ n2 ∧ i = .int .i64 k ∧ Hid (Sx w1 g lo hi vb (topsA a) vs (handlesA a) { a3 with q := Q0 ++ (vals.take k).map (fun x => max x 0) } vm (Q0 ++ (vals.take k).map (fun x => max x 0)) wr)) (fun _ i _ => n2 - (intOf i).toNat)
          case atStart => exact ⟨0, by omega, rfl, HSQ.out⟩
          case round =>
            clear HSQ
            obtain ⟨kq, hkq, rfl, HSQ⟩ := hrel
            by_cases hltq : kq < n2
            · obtain ⟨v, hv⟩ : ∃ v, vals[kq]? = some v := ⟨_, List.getElem?_eq_getElem (by have := HN2.out; omega)⟩
              obtain ⟨b', o', hB', hbl, hcell⟩ := HR2.out.2 (by have := HN2.out; omega)
              have HCV : Hid (∀ W, Fr [] w1 W → W.cell? ⟨b', o' + kq, none⟩ = some (.int .i64 v)) := fun W hW => (World.cell?_of_block ((HW1.out W hW).block b' hbl (by simp))).trans (hcell kq v hv)
              have hsucc : Q0 ++ (vals.take (kq + 1)).map (fun x => max x 0) = (Q0 ++ (vals.take kq).map (fun x => max x 0)) ++ [max v 0] := by
                obtain ⟨h1, h2⟩ := List.getElem?_eq_some_iff.1 hv
                rw [List.take_succ_eq_append_getElem h1, h2]
                simp
              obtain ⟨QL, hQL⟩ : ∃ QL, Q0 ++ (vals.take kq).map (fun x => max x 0) = QL := ⟨_, rfl⟩
              rw [hQL] at hsucc HSQ
              have hqll : QL.length ≤ 19792186043904 := by
                rw [← hQL, List.length_append, List.length_map, List.length_take]
                have := HQ3.out
                omega
              obtain ⟨qn, hqn⟩ : ∃ qn, QL.length = qn := ⟨_, rfl⟩
              have HQN := Lib.hid hqn
              have HSUC := Lib.hid hsucc
              rw [hqn] at hqll
              clear hbl hcell
              first
                | subst hB'
                | (injection hB' with hB'
                   injection hB' with e1 e2
                   subst e1 e2)
              have i0 : (0 : Int) ≤ (kq : Int) := by omega
              have i1 : (kq : Int) < (n2 : Int) := by omega
              have cv := HCV.out wr HSQ.out.sc.frm
              clear hv hsucc hQL hqn
              rcases (show 0 ≤ v ∨ v < 0 by omega) with hx0 | hx0
              · go_wp2_with fail
                refine (HSQ.out.call (a' := enqA { a3 with q := QL } v) (r := .tuple #[]) (fun F hF hb => enq_any hF hb (by show QL.length ≤ _; rw [HQN.out]; omega) v)).mono ?_
                rintro e w9 ⟨rfl, h9⟩
                have h9 : Sx w1 g lo hi vb (topsA a) vs (handlesA a) { a3 with q := QL ++ [max v 0] } u25 QL w9 := h9
                have hmx : max v 0 = v := by omega
                rw [hmx] at h9 HSUC
                have H9 := Lib.hid h9
                have hl9 := h9.lst
                rw [HQN.out] at hl9
                have HL9 := Lib.hid hl9
                have cv9 := HCV.out w9 h9.sc.frm
                have hw9 := h9.hiw
                clear h9 hl9 cv hmx
                go_wp2_with (at_builtin; refine wpList_append_lst2 _ rfl (.tmp 153) (.tmp 159) _ rfl hi 3 i2 _ 1 8 Try.underlying31 hi2 hz2 hs2 hb2 rfl _ qn (iV QL) rfl (HL9.out.alloc _) ⟨w9.heap.size, 0, none⟩ 1 1 [.int .i64 v] rfl rfl (World.news_of_block (heap_alloc_new _ _)) ?c2 ?c3 ?c4 ?c5 ?c6)
                case c2 => simp [Value.oneCell']
                case c3 => unfold maxLen; omega
                case c4 => intro old h1 h2; exact next_any h1 (by omega)
                case c5 => first | omega | (simp; omega)
                case c6 =>
                  intro v2 wb hown hgrow hat
                  have HB : Hid (Sx w1 g lo hi vb (topsA a) vs (handlesA a) { a3 with q := QL ++ [v] } v2 (QL ++ [v]) wb) :=
                    H9.out.grow (by rw [HQN.out]; exact hown) hgrow (by rcases hat with e | e; exact .inl e; exact .inr ⟨_, e, by simp⟩)
                  clear hown hgrow hat cv9
                  go_wp2_with fail
                  go_roundw
                  case rel => exact ⟨kq + 1, by omega, by go_num, by rw [HSUC.out]; exact HB.out⟩
                  case measure => simp [intOf]; omega
              · go_wp2_with fail
                refine (HSQ.out.call (a' := enqA { a3 with q := QL } v) (r := .tuple #[]) (fun F hF hb => enq_any hF hb (by show QL.length ≤ _; rw [HQN.out]; omega) v)).mono ?_
                rintro e w9 ⟨rfl, h9⟩
                have h9 : Sx w1 g lo hi vb (topsA a) vs (handlesA a) { a3 with q := QL ++ [max v 0] } u25 QL w9 := h9
                have hmx : max v 0 = 0 := by omega
                rw [hmx] at h9 HSUC
                have H9 := Lib.hid h9
                have hl9 := h9.lst
                rw [HQN.out] at hl9
                have HL9 := Lib.hid hl9
                have cv9 := HCV.out w9 h9.sc.frm
                have hw9 := h9.hiw
                clear h9 hl9 cv hmx
                go_wp2_with (at_builtin; refine wpList_append_lst2 _ rfl (.tmp 153) (.tmp 159) _ rfl hi 3 i2 _ 1 8 Try.underlying31 hi2 hz2 hs2 hb2 rfl _ qn (iV QL) rfl (HL9.out.alloc _) ⟨w9.heap.size, 0, none⟩ 1 1 [.int .i64 0] rfl rfl (World.news_of_block (heap_alloc_new _ _)) ?c2 ?c3 ?c4 ?c5 ?c6)
                case c2 => simp [Value.oneCell']
                case c3 => unfold maxLen; omega
                case c4 => intro old h1 h2; exact next_any h1 (by omega)
                case c5 => first | omega | (simp; omega)
                case c6 =>
                  intro v2 wb hown hgrow hat
                  have HB : Hid (Sx w1 g lo hi vb (topsA a) vs (handlesA a) { a3 with q := QL ++ [0] } v2 (QL ++ [0]) wb) :=
                    H9.out.grow (by rw [HQN.out]; exact hown) hgrow (by rcases hat with e | e; exact .inl e; exact .inr ⟨_, e, by simp⟩)
                  clear hown hgrow hat cv9
                  go_wp2_with fail
                  go_roundw
                  case rel => exact ⟨kq + 1, by omega, by go_num, by rw [HSUC.out]; exact HB.out⟩
                  case measure => simp [intOf]; omega
            · obtain rfl : n2 = kq := by omega
              obtain ⟨Q, hQ⟩ : ∃ Q, Q0 ++ (vals.take n2).map (fun x => max x 0) = Q := ⟨_, rfl⟩
              rw [hQ] at HSQ
              obtain ⟨qn, hqn⟩ : ∃ qn, Q.length = qn := ⟨_, rfl⟩
              have HQN := Lib.hid hqn
              obtain ⟨Aq, cq, rfl, hcq1, hcq2⟩ := HSQ.out.lst.look
              rw [hqn] at hcq1 ⊢
              have hq6 : qn ≤ 9223372036854775807 := by unfold maxLen at hcq2; omega
              have HSQ : Hid (Sx w1 g lo hi vb (topsA a) vs (handlesA a) { a3 with q := Q.drop 0 } (.slice Aq qn cq) Q wr) := by
                have h := HSQ.out
                rw [hqn] at h
                rw [List.drop_zero]
                exact h
              clear hQ hqn hltq hkq hcq1 hcq2 HQ3 HA3
              go_upto_region 39 with fail
              go_loopw [27] (fun i wr => ∃ k : Nat, k ≤ qn ∧ i = .int .i64 k ∧ Hid (Sx w1 g lo hi vb (topsA a) vs (handlesA a) { a3 with q := Q.drop k } (.slice Aq qn cq) Q wr)) (fun i _ => qn - (intOf i).toNat)
              case atStart => exact ⟨0, by omega, rfl, HSQ.out⟩
              case round =>
                clear HSQ
                obtain ⟨kx, hkx, rfl, HSQ⟩ := hrel
                by_cases hltx : kx < qn
                · obtain ⟨x, hx⟩ : ∃ x, Q[kx]? = some x := ⟨_, List.getElem?_eq_getElem (by have := HQN.out; omega)⟩
                  have HCM : Hid (∀ (W : World) (b3 : RA), Sx w1 g lo hi vb (topsA a) vs (handlesA a) b3 (.slice Aq qn cq) Q W → ∃ mb mo, Aq = some ⟨mb, mo, none⟩ ∧ W.cell? ⟨mb, mo + kx, none⟩ = some (.int .i64 x)) := fun W b3 hW => by
                    obtain ⟨mb, mo, cap, hvm, _, _, _, _, _, _, hc⟩ := hW.lst.form (by rw [HQN.out]; omega)
                    injection hvm with hvm _ _
                    exact ⟨mb, mo, hvm, hc kx _ (iV_at hx)⟩
                  have hdq : deqA { a3 with q := Q.drop kx } = ({ a3 with q := Q.drop (kx + 1) }, x, true) := by
                    unfold deqA
                    simp only [drop_cons hx]
                  have HDQ := Lib.hid hdq
                  obtain ⟨mb, mo, rfl, cm1⟩ := HCM.out wr _ HSQ.out
                  have i0 : (0 : Int) ≤ (kx : Int) := by omega
                  have i1 : (kx : Int) < (qn : Int) := by omega
                  have hxx : (x != x) = false := by simp
                  clear hx hdq
                  go_wp2_with fail
                  refine (HSQ.out.call (a' := (deqA { a3 with q := Q.drop kx }).1) (r := .tuple #[.int .i64 (deqA { a3 with q := Q.drop kx }).2.1, .bool (deqA { a3 with q := Q.drop kx }).2.2]) (fun F hF hb => deq_any hF hb)).mono ?_
                  rw [HDQ.out]
                  rintro e w6 ⟨rfl, h6⟩
                  have H6 := Lib.hid h6
                  obtain ⟨mb2, mo2, hm2, cm2⟩ := HCM.out w6 _ h6
                  injection hm2 with hm2
                  injection hm2 with e1 e2
                  subst e1 e2
                  clear h6 cm1
                  go_wp2_with fail
                  go_roundw
                  case rel => exact ⟨kx + 1, by omega, by go_num, H6.out⟩
                  case measure => simp [intOf]; omega
                · obtain rfl : qn = kx := by omega
                  obtain ⟨a5, ha5⟩ : ∃ a5, ({ a3 with q := Q.drop qn } : RA) = a5 := ⟨_, rfl⟩
                  have hdq : deqA a5 = (a5, 0, false) := by
                    have h : a5.q = [] := by
                      rw [← ha5]
                      exact List.drop_eq_nil_of_le (by rw [HQN.out]; exact Nat.le_refl _)
                    unfold deqA
                    simp only [h]
                  have HDQ := Lib.hid hdq
                  have HD5 : Hid (handlesA a5 = handlesA a ∧ a5.ths = a.ths) := by
                    rw [← ha5]
                    exact ⟨HDONE.out, HTH.out⟩
                  rw [ha5] at HSQ
                  clear hdq ha5 hltx hkx
                  go_wp2_with fail
                  refine (HSQ.out.call (a' := (deqA a5).1) (r := .tuple #[.int .i64 (deqA a5).2.1, .bool (deqA a5).2.2]) (fun F hF hb => deq_any hF hb)).mono ?_
                  rw [HDQ.out]
                  rintro e w6 ⟨rfl, h6⟩
                  have H6 := Lib.hid h6
                  clear h6
                  go_wp2_with fail
                  refine (H6.out.sc.ask (fun F hF => handles_any hF)).mono ?_
                  intro e w7 hnl
                  obtain ⟨v7, rfl, hn7, hf7⟩ := NewL.nl hnl
                  rw [HD5.out.1] at hn7
                  obtain ⟨A7, c7, rfl, _, _⟩ := hn7.look
                  have H7 := Lib.hid (H6.out.nil hf7)
                  obtain ⟨A8, c8, rfl, _, _⟩ := H7.out.sc.lists.2.look
                  have HN7 := Lib.hid hn7.rd.2
                  have HN8 := Lib.hid H7.out.sc.lists.2.rd.2
                  clear hnl hn7 hf7
                  go_wp2_with fail
                  refine (same_yes A7 A8 (handlesA a) _ c7 c8 w7 rfl HN7.out HN8.out).mono ?_
                  rintro e w8 ⟨rfl, hf8⟩
                  have H8 := Lib.hid (H7.out.nil hf8)
                  clear hf8
                  go_wp2_with fail
                  refine (H8.out.sc.ask (fun F hF => tops_any hF)).mono ?_
                  rintro e w9 ⟨v9, rfl, hll, hf9⟩
                  rw [topsA_ths HD5.out.2] at hll
                  have H9 := Lib.hid (H8.out.nil hf9)
                  have HLL9 := Lib.hid hll
                  clear hll hf9
                  go_wp2_with fail
                  refine (sameAll_yes w9 H9.out.sc.lists.1 HLL9.out).mono ?_
                  rintro e w10 ⟨rfl, hf10⟩
                  have HF10 : Hid (Fr [] w w10) := HW1.out w10 (H9.out.sc.frm.trans hf10 (by simp))
                  clear hf10
                  go_wp2_with fail
                  go_ret
                  exact ⟨rfl, HF10.out⟩
end Go.Proofs.Ytdjemkgnhohcdaa
