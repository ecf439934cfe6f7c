/-
  Roots: the statement RootsMoves.
-/
import Derived.Test.YtdjemkgnhohcdaaRtM4
import Derived.BigQuiet
import Derived.Deep.RegionWith
namespace Go.Proofs.Ytdjemkgnhohcdaa
open Go.RowKit
set_option linter.unusedVariables false

set_option maxRecDepth 100000 in
set_option maxHeartbeats 12800000 in
theorem moves_st (T S H : Int) (A B : Option Addr) (n c n2 c2 : Nat) (l : List Oq) (vals : List Int) (w : World) (hT : inI T) (hS : inI S) (hH : inI H)
    (hn : n = l.length) (hr : RdO w A l) (hn2 : n2 = vals.length) (hr2 : RdI w B vals) :
    Calls Try.prog 5 #[.int .i64 T, .int .i64 S, .int .i64 H, .slice A n c, .slice B n2 c2] w fun e w' => e = .returned (.bool true) ∧ Fr [] w w' := by
  have HG : Hid ((goalA T S H l).q.length ≤ 2200000000000 ∧ nnH (goalA T S H l).hs) := by
    have q := playL_q l (newA (1 + placeF T 8).toNat (1 + placeF S 40).toNat (placeF H 12).toNat)
    have e0 : (newA (1 + placeF T 8).toNat (1 + placeF S 40).toNat (placeF H 12).toNat).q = [] := rfl
    rw [e0] at q
    have := hr.1
    refine ⟨?_, ?_⟩
    · unfold goalA
      simp only [List.length_nil] at q
      omega
    · unfold goalA
      exact playL_nn l (fun p hp => by obtain ⟨_, e⟩ := List.mem_replicate.1 hp; rw [e]; exact Int.le_refl _)
  have HINI := Lib.hid (And.intro hT (And.intro hS hH))
  have HN := Lib.hid hn
  have HN2 := Lib.hid hn2
  have HR := Lib.hid hr
  have HR2 := Lib.hid hr2
  have hn263 : n2 ≤ 9223372036854775807 := by rw [hn2]; exact hr2.1
  clear hT hS hH hn hr hn2 hr2
  go_enter Try.func5, Try.ntmps5
  go_wp2_with fail
  refine (known_any w).mono ?_
  rintro e w1 ⟨rfl, hf1⟩
  have HF1 := Lib.hid hf1
  clear hf1
  go_wp2_with fail
  refine (played_any T S H A n c l w1 w1 HINI.out.1 HINI.out.2.1 HINI.out.2.2 HN.out (HR.out.fr HF1.out) (Fr.refl _ _) (Nat.le_refl _)).mono ?_
  rintro e w2 ⟨g, F, rfl, hsn, _⟩
  obtain ⟨a, ha⟩ : ∃ a, goalA T S H l = a := ⟨_, rfl⟩
  rw [ha] at hsn HG
  have HSN := Lib.hid hsn
  clear hsn ha
  go_wp2_with fail
  refine (all_any HSN.out.rs HSN.out.fr.size (by have := HG.out.1; omega)).mono ?_
  rintro e w3 ⟨v3, rfl, hv3, hrs3, hf3⟩
  have HSN3 : Hid (Sn w1 g a F w3) := ⟨hrs3, HSN.out.fr.trans hf3 (fun x hx => .inr (HSN.out.rs.base x hx))⟩
  have HF3 := Lib.hid hf3
  have HV3 := Lib.hid hv3
  clear hv3 hrs3 hf3
  go_wp2_with fail
  refine (handles_any HSN3.out.rs).mono ?_
  intro e w4 hnl
  obtain ⟨v4, rfl, hv4, hf4⟩ := NewL.nl hnl
  have HSN4 := Lib.hid (HSN3.out.nil hf4)
  have HF4 := Lib.hid hf4
  have HV4 := Lib.hid hv4
  clear hnl hv4 hf4
  go_wp2_with fail
  refine (queue_any HSN4.out.rs (by have := HG.out.1; omega)).mono ?_
  intro e w5 hnl
  obtain ⟨v5, rfl, hv5, hf5⟩ := NewL.nl hnl
  obtain ⟨A5, c5, rfl, _, _⟩ := hv5.look
  have HSN5 := Lib.hid (HSN4.out.nil hf5)
  obtain ⟨qn, hqn⟩ : ∃ qn, a.q.length = qn := ⟨_, rfl⟩
  have HQN := Lib.hid hqn
  rw [hqn]
  have HWAS : Hid (NL w2.heap.size w5.heap.size w5 v3 (rootsA a)) := by
    have h : NL w3.heap.size w3.heap.size w3 v3 (rootsA a) ∨ True := .inr trivial
    have hl3 : Lst w3 w2.heap.size 3 1 v3 (rootsA a).length (iV (rootsA a)) := HV3.out
    have h5 := (hl3.fr HF4.out (by simp)).fr hf5 (by simp)
    exact ⟨h5, fun k hk => (h5.lt k hk).2⟩
  have HHS : Hid (NL w2.heap.size w5.heap.size w5 v4 (handlesA a)) := (HV4.out.fr hf5 (by simp)).widen HF3.out.size hf5.size
  have h25 : w2.heap.size ≤ w5.heap.size := Nat.le_trans HF3.out.size (Nat.le_trans HF4.out.size hf5.size)
  have H25 := Lib.hid h25
  have HFL : Hid (∀ x ∈ F, x < w2.heap.size) := HSN.out.rs.lt
  have H12 : Hid (w1.heap.size ≤ w2.heap.size) := HSN.out.fr.size
  obtain ⟨lo, hlo⟩ : ∃ lo, w2.heap.size = lo := ⟨_, rfl⟩
  rw [hlo] at HWAS HHS H25 HFL H12
  have HW1 : Hid (∀ W, Fr [] w1 W → Fr [] w W) := fun W hW => HF1.out.trans hW (by simp)
  obtain ⟨A3, c3, rfl, hw6, hw6'⟩ := HWAS.out.look
  obtain ⟨A4, c4, rfl, hh6, hh6'⟩ := HHS.out.look
  obtain ⟨wn, hwn⟩ : ∃ wn, (rootsA a).length = wn := ⟨_, rfl⟩
  obtain ⟨hn, hhn⟩ : ∃ hn, (handlesA a).length = hn := ⟨_, rfl⟩
  have HWN := Lib.hid hwn
  have HHN := Lib.hid hhn
  have hwn3 : wn ≤ 3000000000000 := by
    rw [← hwn]
    have h1 := rootsA_len a
    obtain ⟨R, hR, rfl, rfl⟩ := HSN.out.rs
    have h2 := sizeA_le hR
    have h3 : R.q.length ≤ 2200000000000 := HG.out.1
    omega
  rw [hwn, hhn]
  have hhn6 : hn ≤ 9223372036854775807 := by unfold maxLen at hh6'; omega
  obtain ⟨i2, hi2, hz2, hs2, hb2⟩ := info_parts int_info
  obtain ⟨i3, hi3, hz3, hs3, hb3⟩ := info_parts ints_info
  clear hnl hv5 hf5 hqn h25 HV3 HV4 HF3 HF4 HSN3 HSN4 hlo hw6 hw6' hh6 hh6' hwn hhn HSN
  go_upto_region 9 with fail
  go_loopw [16, 17] (fun v i wr => ∃ k : Nat, k ≤ 8 ∧ i = .int .i64 k ∧ Hid (Tq (fun j => framesA a (j : Int)) w5 v k wr)) (fun _ i _ => 8 - (intOf i).toNat)
  case atStart => exact ⟨0, by omega, rfl, [], Lst.nil _ _ _ _, rfl, fun i hi => by omega, Fr.refl _ _⟩
  case round =>
    obtain ⟨k, hk, rfl, HT⟩ := hrel
    by_cases hlt : k < 8
    · have hd : decide ((k : Int) < 8) = true := decide_eq_true (by omega)
      go_wp2_with fail
      refine (frames_any (HSN5.out.nil HT.out.frm).rs (k : Int)).mono ?_
      intro e w6 hnl
      obtain ⟨vf, rfl, hvf, hff⟩ := hnl.nl
      obtain ⟨Af, cf, rfl, _, _⟩ := hvf.look
      obtain ⟨vs, h1, h2, h3, h4⟩ := HT.out.fr hff
      have H1 := Lib.hid h1
      have H2 := Lib.hid h2
      have H3 := Lib.hid h3
      have H4 := Lib.hid h4
      have HVF := Lib.hid (hvf.1.mono (HT.out.frm).size)
      have hszi := h4.size
      obtain ⟨fl, hfl⟩ : ∃ fl, (framesA a (k : Int)).length = fl := ⟨_, rfl⟩
      rw [hfl]
      have HFLN := Lib.hid hfl
      clear hnl hvf hff h1 h2 h3 h4 hfl
      go_wp2_with (at_builtin; refine wpList_append_lst _ rfl (.tmp 46) (.tmp 50) _ rfl w5.heap.size 31 i3 _ 1 24 Try.underlying41 hi3 hz3 hs3 hb3 rfl _ k vs rfl (H1.out.alloc _) ⟨w6.heap.size, 0, none⟩ 1 1 [.slice Af fl cf] rfl rfl (World.news_of_block (heap_alloc_new _ _)) ?c2 ?c3 ?c4 ?c5 ?c6)
      case c2 => simp [Value.oneCell']
      case c3 => unfold maxLen; omega
      case c4 => omega
      case c5 => first | omega | (simp; omega)
      case c6 =>
        intro v2 w7 hown hgrow hat
        have HTP : Hid (Tq (fun j => framesA a (j : Int)) w5 v2 (k + 1) w7) := by
          have h5 := HVF.out
          rw [← HFLN.out] at hown
          exact Tq.snoc (f := fun j => framesA a (j : Int)) _ H1.out H2.out H3.out H4.out h5 hown hgrow
        clear hown hgrow hat
        go_wp2_with fail
        go_roundw
        case rel => exact ⟨k + 1, by omega, by go_num, HTP.out⟩
        case measure => simp [intOf]; omega
    · obtain rfl : k = 8 := by omega
      have hd : decide (((8 : Nat) : Int) < 8) = false := by decide
      obtain ⟨w6, rfl⟩ : ∃ w6, w6 = wr := ⟨_, rfl⟩
      have hll := HT.out.ll
      have h56 := HT.out.frm
      obtain ⟨Lf, hLf⟩ : ∃ Lf, (List.range 8).map (fun j : Nat => framesA a (j : Int)) = Lf := ⟨_, rfl⟩
      have HLF : Hid (Lf.length = 8 ∧ ∀ k : Nat, k < 8 → Lf[k]? = some (framesA a (k : Int))) := by
        rw [← hLf]
        exact ⟨by simp, fun k hk => by rw [List.getElem?_map, List.getElem?_range hk]; rfl⟩
      rw [hLf] at hll
      obtain ⟨Al, cl, rfl, _, _⟩ := hll.look
      obtain ⟨h5, hh5⟩ : ∃ h5, w5.heap.size = h5 := ⟨_, rfl⟩
      obtain ⟨h6, hh6⟩ : ∃ h6, w6.heap.size = h6 := ⟨_, rfl⟩
      obtain ⟨z, hz⟩ : ∃ z, z = w6.alloc (.cells #[.slice B n2 c2, .slice none 0 0] 56) := ⟨_, rfl⟩
      have hfz : Fr [] w6 z := by rw [hz]; exact (Fr.refl _ _).alloc _
      have hBz : Bk z w6.heap.size 56 #[.slice B n2 c2, .slice none 0 0] := by rw [hz]; exact Bk.new _ _ _
      have hM : Ms w1 g F lo h5 h6 (.slice A3 wn c3) (.slice A4 hn c4) (.slice Al 8 cl) (rootsA a) (handlesA a) Lf a z := by
        have k3 := (HWAS.out.fr h56 (by simp)).fr hfz (by simp)
        have k4 := (HHS.out.fr h56 (by simp)).fr hfz (by simp)
        have k5 := hll.fr hfz (by simp)
        rw [HWN.out, hh5] at k3
        rw [HHN.out, hh5] at k4
        rw [HLF.out.1, hh5, hh6] at k5
        refine ⟨(HSN5.out.nil h56).nil hfz, HFL.out, k3, k4, k5, ?_, ?_, ?_, H12.out⟩
        · rw [← hh6]; exact hfz.size
        · rw [← hh5]; exact H25.out
        · rw [← hh5, ← hh6]; exact h56.size
      have hF6 : ∀ x ∈ F, x < h6 := fun x hx => by
        have h1 := HFL.out x hx
        obtain ⟨_, _, _, _, _, _, q1, q2, _⟩ := hM
        omega
      have h16 : Fr [] w1 w6 := (HSN5.out.nil h56).fr
      rw [hh6] at hBz
      have HUP : Hid (Calls Try.prog 29 #[.pointer (some ⟨g, 0, none⟩), .func (.func 30) #[.pointer (some ⟨h6, 0, none⟩)] #[]] z (UpdR w1.heap.size g h6 a F B n2 c2 vals z)) :=
        update_any hM.rs hM.frm.size (by have := HG.out.1; omega) B n2 c2 vals hBz (fun hx => by have := hF6 _ hx; omega) HN2.out ((HR2.out.fr (HW1.out _ h16) (by simp)).fr hfz (by simp))
          (fun ad had => by
            have h1 := HR2.out.dlt ad had
            have h2 := HF1.out.size
            have h3 := H12.out
            have h8 := hM.rs.base
            obtain ⟨_, _, _, _, _, _, q1, q2, _⟩ := hM
            have h4 := h16.size
            have h7 := hfz.size
            refine ⟨by omega, by omega, fun hx => ?_⟩
            have := h8 _ hx
            omega)
      have HM := Lib.hid hM
      have HZS := Lib.hid hfz.size
      have HH6 := Lib.hid hh6
      have HLEN8 : Hid (Lf.length = 8) := HLF.out.1
      rw [HLF.out.1]
      clear hll h56 hLf hfz hBz hM hF6 h16 HT HWAS HHS HSN5
      rw [hh5] at H25
      clear hh5
      go_wp2_with fail
      rw [← hz]
      try rw [HH6.out]
      refine (Calls.mono HUP.out ?_)
      rintro e w7 ⟨rfl, v7, hB7, hL7, hrs7, hf7⟩
      rw [upd_met] at hL7
      obtain ⟨a2, ha2⟩ : ∃ a2, (updA (ansA vals) a).2 = a2 := ⟨_, rfl⟩
      have HUR : Hid (rootsA a2 = pos (vals.take wn) ∧ (∀ i, framesA a2 i = framesA a i) ∧ a2.q.length = qn ∧ (handlesA a2).length = hn) := by
        rw [← ha2]
        exact ⟨by rw [upd_roots, HWN.out], upd_frames _ a, by rw [upd_q, HQN.out], by rw [(upd_handles vals a HG.out.2).1, HHN.out]⟩
      have HUH : Hid (∀ (i : Nat) (x : Int), (handlesA a)[i]? = some x → ∃ x' : Int, (handlesA a2)[i]? = some x' ∧ decide (x' < 0) = decide (x < 0) ∧ (x = 0 → x' = 0)) := by
        rw [← ha2]
        exact (upd_handles vals a HG.out.2).2
      rw [ha2] at hrs7
      have HM7 : Hid (Ms w1 g F lo h5 h6 (.slice A3 wn c3) (.slice A4 hn c4) (.slice Al 8 cl) (rootsA a) (handlesA a) Lf a2 w7) :=
        HM.out.to hf7 hrs7 (fun x hx => by
          rcases List.mem_cons.1 hx with e | e
          · exact .inr (by omega)
          · exact .inl e)
      obtain ⟨A7, c7, rfl, _, _⟩ := hL7.look
      have HR7 : Hid (RdI w7 A7 (rootsA a)) := (NL.rd (lo := z.heap.size) (hi := w7.heap.size) ⟨hL7, fun k hk => (hL7.lt k hk).2⟩).2
      rw [HWN.out] at hB7
      have cm : w7.cell? ⟨h6, 1, none⟩ = some (.slice A7 wn c7) := hB7.cell 1
      have HR3 : Hid (RdI w7 A3 (rootsA a)) := by
        obtain ⟨_, _, q3, _⟩ := HM7.out
        rw [← HWN.out] at q3
        exact q3.rd.2
      clear hB7 hL7 hrs7 hf7 ha2 HUP HM hz
      go_wp2_with fail
      refine (same_yes A7 A3 (rootsA a) wn c7 c3 w7 HWN.out.symm HR7.out HR3.out).mono ?_
      rintro e w8 ⟨rfl, hf8⟩
      have HM8 := Lib.hid (HM7.out.nil hf8)
      clear hf8 HR7 HR3 HM7 cm
      go_upto_region 18 with fail
      go_loopw [19, 20] (fun v i wr => ∃ k : Nat, k ≤ wn ∧ i = .int .i64 k ∧ Hid (Lst wr w8.heap.size 3 1 v (pos (vals.take k)).length (iV (pos (vals.take k)))) ∧ Hid (Fr [] w8 wr)) (fun _ i _ => wn - (intOf i).toNat)
      case atStart => exact ⟨0, by omega, rfl, Lst.nil _ _ _ _, Fr.refl _ _⟩
      case round =>
        obtain ⟨k, hk, rfl, HL, HFW⟩ := hrel
        by_cases hlt : k < wn
        · have i0 : (0 : Int) ≤ (k : Int) := by omega
          have d1 : decide ((k : Int) < (wn : Int)) = true := decide_eq_true (by omega)
          have d2 : decide (k < wn) = true := decide_eq_true (by omega)
          by_cases hk2 : k < n2
          · obtain ⟨x, hx⟩ : ∃ x, vals[k]? = some x := ⟨_, List.getElem?_eq_getElem (by have := HN2.out; omega)⟩
            obtain ⟨bb, bo, rfl, hbl, hcell⟩ := HR2.out.2 (by have := HN2.out; omega)
            have cx : wr.cell? ⟨bb, bo + k, none⟩ = some (.int .i64 x) := (World.cell?_of_block ((HW1.out wr (HM8.out.frm.trans HFW.out (by simp))).block bb hbl (by simp))).trans (hcell k x hx)
            have i1 : (k : Int) < (n2 : Int) := by omega
            have d3 : decide ((k : Int) < (n2 : Int)) = true := decide_eq_true (by omega)
            have d4 : decide (k < n2) = true := decide_eq_true (by omega)
            have HX := Lib.hid hx
            clear hcell hx
            by_cases hx0 : 0 < x
            · have d5 : decide (0 < x) = true := decide_eq_true hx0
              obtain ⟨m, hm⟩ : ∃ m, (pos (vals.take k)).length = m := ⟨_, rfl⟩
              have hmk : m ≤ k := by rw [← hm]; have := pos_len (vals.take k); rw [List.length_take] at this; omega
              rw [hm] at HL
              have HMM := Lib.hid hm
              have hszi := HFW.out.size
              clear hm
              go_wp2_with (at_builtin; refine wpList_append_lst _ rfl (.tmp 83) (.tmp 88) _ rfl w8.heap.size 3 i2 _ 1 8 Try.underlying31 hi2 hz2 hs2 hb2 rfl _ m (iV (pos (vals.take k))) rfl (HL.out.alloc _) ⟨wr.heap.size, 0, none⟩ 1 1 [.int .i64 x] rfl rfl (World.news_of_block (heap_alloc_new _ _)) ?c2 ?c3 ?c4 ?c5 ?c6)
              case c2 => simp [Value.oneCell']
              case c3 => unfold maxLen; omega
              case c4 => omega
              case c5 => first | omega | (simp; omega)
              case c6 =>
                intro v2 wb hown hgrow hat
                have HL2 : Hid (Lst wb w8.heap.size 3 1 v2 (pos (vals.take (k + 1))).length (iV (pos (vals.take (k + 1))))) := by
                  rw [pos_take_in HX.out hx0, List.length_append, HMM.out]
                  unfold iV at hown ⊢
                  rw [List.map_append]
                  exact hown
                have HF2 : Hid (Fr [] w8 wb) := HFW.out.trans (((Fr.refl _ wr).alloc _).grown hgrow (fun q hq => .inl (Option.mem_toList.2 hq))) (fun q hq => .inr (HL.out.lt q (Option.mem_toList.1 hq)).1)
                clear hown hgrow hat
                go_wp2_with fail
                go_roundw
                case rel => exact ⟨k + 1, by omega, by go_num, HL2.out, HF2.out⟩
                case measure => simp [intOf]; omega
            · have d5 : decide (0 < x) = false := decide_eq_false hx0
              go_wp2_with fail
              go_roundw
              case rel => exact ⟨k + 1, by omega, by go_num, by rw [pos_take_out HX.out hx0]; exact HL.out, HFW.out⟩
              case measure => simp [intOf]; omega
          · have d3 : decide ((k : Int) < (n2 : Int)) = false := decide_eq_false (by omega)
            have d4 : decide (k < n2) = false := decide_eq_false (by omega)
            go_wp2_with fail
            go_roundw
            case rel => exact ⟨k + 1, by omega, by go_num, by rw [pos_take_end (by have := HN2.out; omega)]; exact HL.out, HFW.out⟩
            case measure => simp [intOf]; omega
        · obtain rfl : wn = k := by omega
          obtain ⟨w9, rfl⟩ : ∃ w9, w9 = wr := ⟨_, rfl⟩
          obtain ⟨W, hW⟩ : ∃ W, pos (vals.take wn) = W := ⟨_, rfl⟩
          rw [hW] at HL HUR
          obtain ⟨Aw, cw, rfl, _, _⟩ := HL.out.look
          obtain ⟨m, hm⟩ : ∃ m, W.length = m := ⟨_, rfl⟩
          have HMW := Lib.hid hm
          have HM9 := Lib.hid (HM8.out.nil HFW.out)
          have hw89 := HFW.out.size
          have HLW : Hid (NL w8.heap.size w9.heap.size w9 (.slice Aw W.length cw) W) := ⟨HL.out, fun k hk => (HL.out.lt k hk).2⟩
          have H8 : Hid (h6 ≤ w8.heap.size ∧ ∀ x ∈ F, x < w8.heap.size) := by
            obtain ⟨_, q2, _, _, _, q6, q7, q8, _⟩ := HM8.out
            exact ⟨q6, fun x hx => by have := q2 x hx; omega⟩
          rw [hm]
          clear hW hm HL hlt hk
          go_wp2_with fail
          refine (handles_any HM9.out.rs).mono ?_
          intro e w10 hnl
          obtain ⟨v10, rfl, hv10, hf10⟩ := NewL.nl hnl
          obtain ⟨A10, c10, rfl, _, _⟩ := hv10.look
          rw [HUR.out.2.2.2]
          have HV10 : Hid (NL w9.heap.size w10.heap.size w10 (.slice A10 (handlesA a2).length c10) (handlesA a2)) := hv10
          have HM10 := Lib.hid (HM9.out.nil hf10)
          have HLW10 := Lib.hid (HLW.out.fr hf10 (by simp))
          clear hnl hv10 hf10 HM9 HLW
          go_wp2_with fail
          refine (all_any HM10.out.rs HM10.out.frm.size (by have := HUR.out.2.2.1; have := HQN.out; have := HG.out.1; omega)).mono ?_
          rintro e w11 ⟨v11, rfl, hv11, hrs11, hf11⟩
          rw [HUR.out.1] at hv11
          have HM11 := Lib.hid (HM10.out.to hf11 hrs11 (fun x hx => .inl hx))
          obtain ⟨A11, c11, rfl, _, _⟩ := hv11.look
          have HRW : Hid (RdI w11 Aw W) := (HLW10.out.fr hf11 (fun x hx => .inl (H8.out.2 x hx))).rd.2
          have HR11 : Hid (RdI w11 A11 W) := (NL.rd (lo := w10.heap.size) (hi := w11.heap.size) ⟨hv11, fun k hk => (hv11.lt k hk).2⟩).2
          have HV11 := Lib.hid (HV10.out.fr hf11 (fun x hx => .inl (Nat.lt_of_lt_of_le (H8.out.2 x hx) hw89)))
          rw [HMW.out]
          clear hv11 hrs11 hf11 HLW10 HV10 HM10
          go_wp2_with fail
          refine (same_yes A11 Aw W m c11 cw w11 HMW.out.symm HR11.out HRW.out).mono ?_
          rintro e w12 ⟨rfl, hf12⟩
          have HM12 := Lib.hid (HM11.out.nil hf12)
          have HV12 := Lib.hid (HV11.out.fr hf12 (by simp))
          clear hf12 HM11 HV11 HRW HR11
          have hnn : ((hn : Int) != (hn : Int)) = false := by simp
          have hqq : ((qn : Int) != (qn : Int)) = false := by simp
          go_wp2_with fail
          refine (queue_any HM12.out.rs (by have := HUR.out.2.2.1; have := HQN.out; have := HG.out.1; omega)).mono ?_
          intro e w13 hnl
          obtain ⟨v13, rfl, hv13, hf13⟩ := NewL.nl hnl
          obtain ⟨A13, c13, rfl, _, _⟩ := hv13.look
          rw [HUR.out.2.2.1]
          have HM13 := Lib.hid (HM12.out.nil hf13)
          have HRb : Hid (RdI w13 A10 (handlesA a2)) := (HV12.out.fr hf13 (by simp)).rd.2
          have HRa : Hid (RdI w13 A4 (handlesA a)) := by
            obtain ⟨_, _, _, q4, _⟩ := HM13.out
            rw [← HHN.out] at q4
            exact q4.rd.2
          clear hnl hv13 hf13 HM12 HV12
          go_upto_region 26 with fail
          go_loopw [22] (fun i wr => ∃ k : Nat, k ≤ hn ∧ i = .int .i64 k ∧ Hid (Fr [] w13 wr)) (fun i _ => hn - (intOf i).toNat)
          case atStart => exact ⟨0, by omega, rfl, Fr.refl _ _⟩
          case round =>
            obtain ⟨k, hk, rfl, HFW3⟩ := hrel
            by_cases hlt : k < hn
            · obtain ⟨x, hx⟩ : ∃ x, (handlesA a)[k]? = some x := ⟨_, List.getElem?_eq_getElem (by have := HHN.out; omega)⟩
              obtain ⟨x', hx', hdd, hz0⟩ := HUH.out k x hx
              obtain ⟨b4, o4, rfl, _, hc4⟩ := (HRa.out.fr HFW3.out (by simp)).2 (by have := HHN.out; omega)
              obtain ⟨b5, o5, rfl, _, hc5⟩ := (HRb.out.fr HFW3.out (by simp)).2 (by have := HUR.out.2.2.2; omega)
              have cx := hc4 k x hx
              have cx' := hc5 k x' hx'
              have i0 : (0 : Int) ≤ (k : Int) := by omega
              have i1 : (k : Int) < (hn : Int) := by omega
              have d1 : decide ((k : Int) < (hn : Int)) = true := decide_eq_true (by omega)
              have d2 : decide (k < hn) = true := decide_eq_true (by omega)
              clear hc4 hc5 hx hx'
              rcases (show x < 0 ∨ x = 0 ∨ 0 < x by omega) with hs | hs | hs
              · have e1 : decide (x < 0) = true := decide_eq_true hs
                have e2 : decide (x' < 0) = true := by rw [hdd]; exact e1
                have e3 : (x == 0) = false := by simpa using (show x ≠ 0 by omega)
                clear hdd hz0 hs
                go_upto_region 28 with fail
                go_quiet (fail)
                go_wp2_with fail
                go_roundw
                case rel => exact ⟨k + 1, by omega, by go_num, by first | exact HFW3.out | exact HFW3.out.drewN _⟩
                case measure => simp [intOf]; omega
              · have e0 := hz0 hs
                subst hs e0
                clear hdd hz0
                go_upto_region 28 with fail
                go_quiet (fail)
                go_wp2_with fail
                go_roundw
                case rel => exact ⟨k + 1, by omega, by go_num, by first | exact HFW3.out | exact HFW3.out.drewN _⟩
                case measure => simp [intOf]; omega
              · have e1 : decide (x < 0) = false := decide_eq_false (by omega)
                have e2 : decide (x' < 0) = false := by rw [hdd]; exact e1
                have e3 : (x == 0) = false := by simpa using (show x ≠ 0 by omega)
                clear hdd hz0 hs
                go_upto_region 28 with fail
                go_quiet (fail)
                go_wp2_with fail
                go_roundw
                case rel => exact ⟨k + 1, by omega, by go_num, by first | exact HFW3.out | exact HFW3.out.drewN _⟩
                case measure => simp [intOf]; omega
            · obtain rfl : hn = k := by omega
              obtain ⟨w14, rfl⟩ : ∃ w14, w14 = wr := ⟨_, rfl⟩
              have HM14 := Lib.hid (HM13.out.nil HFW3.out)
              clear hlt hk HM13 HRa HRb HFW3
              go_upto_region 31 with fail
              go_loopw [23] (fun i wr => ∃ k : Nat, k ≤ 8 ∧ i = .int .i64 k ∧ Hid (Fr [] w14 wr)) (fun i _ => 8 - (intOf i).toNat)
              case atStart => exact ⟨0, by omega, rfl, Fr.refl _ _⟩
              case round =>
                obtain ⟨k, hk, rfl, HFW4⟩ := hrel
                obtain ⟨wo, rfl⟩ : ∃ wo, wo = wr := ⟨_, rfl⟩
                by_cases hlt : k < 8
                · have d1 : decide ((k : Int) < 8) = true := decide_eq_true (by omega)
                  have i0 : (0 : Int) ≤ (k : Int) := by omega
                  have i1 : (k : Int) < ((8 : Nat) : Int) := by omega
                  have i2' : (k : Int) < 8 := by omega
                  have HM15 := Lib.hid (HM14.out.nil HFW4.out)
                  have hL : LL h5 h6 wo (.slice Al Lf.length cl) Lf := by
                    rw [HLEN8.out]
                    obtain ⟨_, _, _, _, q5, _⟩ := HM15.out
                    exact q5
                  obtain ⟨b8, o8, B8, d8, rfl, hc8, hr8⟩ := hL.at (HLF.out.2 k hlt)
                  have hb8 : b8 < wo.heap.size := block_lt_of_cell hc8
                  have HC8 := Lib.hid hc8
                  have HR8 := Lib.hid hr8
                  obtain ⟨fl, hfl⟩ : ∃ fl, (framesA a (k : Int)).length = fl := ⟨_, rfl⟩
                  rw [hfl] at hc8
                  have HFN := Lib.hid hfl
                  have HC : Hid (∀ Z, Fr [] wo Z → Calls Try.prog 20 #[.pointer (some ⟨g, 0, none⟩), .int .i64 (k : Int)] Z fun e w' => ∃ Av cv, e = .returned (.slice Av fl cv) ∧ w'.cell? ⟨b8, o8 + k, none⟩ = some (.slice B8 fl d8) ∧
                      Hid (∀ Y, Fr [] w' Y → Calls Try.prog 28 #[.slice Av fl cv, .slice B8 fl d8] Y fun e w'' => e = .returned (.bool true) ∧ Hid (Fr [] w14 w''))) := fun Z hZ => by
                    refine (frames_any (HM15.out.nil hZ).rs (k : Int)).mono ?_
                    intro e w' hnl
                    obtain ⟨vz, rfl, hvz, hfz⟩ := NewL.nl hnl
                    rw [HUR.out.2.1] at hvz
                    obtain ⟨Av, cv, rfl, _, _⟩ := hvz.look
                    have hzz : Fr [] wo w' := hZ.trans hfz (by simp)
                    have hc' : w'.cell? ⟨b8, o8 + k, none⟩ = some (.slice B8 (framesA a (k : Int)).length d8) := (World.cell?_of_block (hzz.block b8 hb8 (by simp))).trans HC8.out
                    rw [HFN.out] at hc'
                    refine ⟨Av, cv, by rw [HFN.out], hc', fun Y hY => ?_⟩
                    refine (same_yes Av B8 (framesA a (k : Int)) fl cv d8 Y HFN.out.symm (hvz.rd.2.fr hY (by simp)) ((HR8.out.fr hzz (by simp)).fr hY (by simp))).mono ?_
                    rintro e w'' ⟨rfl, hf⟩
                    exact ⟨rfl, HFW4.out.trans ((hzz.trans hY (by simp)).trans hf (by simp)) (by simp)⟩
                  clear hL hr8 hfl
                  go_upto_region 33 with fail
                  go_cut [155] (fun u wx => u = .bool false ∧ Hid (Fr [] w14 wx))
                  case first =>
                    go_region_with (first | (go_at_call 20; refine (HC.out _ (by repeat (first | exact Fr.refl _ _ | refine Fr.drew ?_))).mono ?_; rintro e w' ⟨Av, cv, rfl, cq, hq⟩) | (go_at_call 28; refine (hq.out _ (by repeat (first | exact Fr.refl _ _ | refine Fr.drew ?_))).mono ?_; rintro e w'' ⟨rfl, hend⟩))
                    all_goals
                      go_wp2_with fail
                      go_meet
                      case rel => exact ⟨rfl, hend⟩
                  obtain ⟨rfl, hcut⟩ := hcut
                  go_wp2_with fail
                  go_roundw
                  case rel => exact ⟨k + 1, by omega, by go_num, hcut⟩
                  case measure => simp [intOf]; omega
                · obtain rfl : k = 8 := by omega
                  have d1 : decide (((8 : Nat) : Int) < 8) = false := by decide
                  go_wp2_with fail
                  go_ret
                  exact ⟨rfl, HW1.out wo (HM14.out.frm.trans HFW4.out (by simp))⟩
end Go.Proofs.Ytdjemkgnhohcdaa
