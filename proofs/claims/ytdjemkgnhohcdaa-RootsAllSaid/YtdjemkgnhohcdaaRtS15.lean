/-
  Roots: tops.
-/
import Derived.Test.YtdjemkgnhohcdaaRtS14
namespace Go.Proofs.Ytdjemkgnhohcdaa
open Go.RowKit
set_option linter.unusedVariables false

/-- What tops has gathered of the first k threads. -/
def Tp (a : RA) (w : World) (v : Value) (k : Nat) (wr : World) : Prop :=
  ∃ vs : List Value, Lst wr w.heap.size 31 1 v k vs ∧ vs.length = k ∧ (∀ (i : Nat), i < k → ∃ u, vs[i]? = some u ∧ Lst wr w.heap.size 3 1 u (topOf a i).length (iV (topOf a i))) ∧ Fr [] w wr
theorem Tp.fr {a : RA} {w wr wr' : World} {v : Value} {k : Nat} (h : Tp a w v k wr) (hf : Fr [] wr wr') : Tp a w v k wr' := by
  obtain ⟨vs, h1, h2, h3, h4⟩ := h
  refine ⟨vs, h1.fr hf (by simp), h2, fun i hi => ?_, h4.trans hf (by simp)⟩
  obtain ⟨u, k1, k2⟩ := h3 i hi
  exact ⟨u, k1, k2.fr hf (by simp)⟩
theorem topOf_len {b0 : Nat} {w : World} {g : Nat} {a : RA} {F : List Nat} (h : RS b0 w g a F) (t : Nat) : (topOf a t).length ≤ 4096 := by
  obtain ⟨R, hR, rfl, rfl⟩ := h
  unfold topOf
  split
  · rename_i hi
    obtain ⟨A, th, B, hth, he, _, _⟩ := inT_split hi
    rw [abs_at hth he]
    have ht : th ∈ R.ths := by rw [hth]; simp
    by_cases h0 : th.ls = []
    · rw [h0]; simp
    · obtain ⟨C, x, e⟩ := last_split h0
      have h1 : sumL th.ls ≤ 4096 := Nat.le_trans (hR.room th ht) hR.ok.2.2.2.1
      rw [e] at h1 ⊢
      unfold sumL at h1
      simp at h1 ⊢
      omega
  · simp

theorem Tp.snoc {a : RA} {w wi w3 : World} {v v2 : Value} {k : Nat} {vs : List Value} {A5 : Option Addr} {c5 : Nat} (o : Obj) (h1 : Lst wi w.heap.size 31 1 v k vs) (h2 : vs.length = k) (h3 : ∀ (i : Nat), i < k → ∃ u, vs[i]? = some u ∧ Lst wi w.heap.size 3 1 u (topOf a i).length (iV (topOf a i))) (h4 : Fr [] w wi)
    (h5 : Lst wi w.heap.size 3 1 (.slice A5 (topOf a k).length c5) (topOf a k).length (iV (topOf a k))) (hown : Lst w3 w.heap.size 31 1 v2 (k + 1) (vs ++ [.slice A5 (topOf a k).length c5])) (hg : (wi.alloc o).grownBy w3 v.ownBlock) : Tp a w v2 (k + 1) w3 := by
  have hf : Fr v.ownBlock.toList wi w3 := ((Fr.refl _ wi).alloc o).grown hg (fun j hj => .inl (by simp [hj]))
  have off : ∀ (u : Value) (n : Nat) (xs : List Value), Lst wi w.heap.size 3 1 u n xs → Lst w3 w.heap.size 3 1 u n xs := fun u n xs hu => hu.fr hf (fun q hq hx => by
    obtain ⟨cs, hb⟩ := h1.bk (k := q) (by simpa using hx)
    exact hu.ne_bk hb (by decide) q hq rfl)
  refine ⟨_, hown, by rw [List.length_append, h2]; rfl, fun i hi => ?_, h4.trans hf (fun x hx => .inr (h1.lt x (by simpa using hx)).1)⟩
  by_cases e : i = k
  · subst e
    exact ⟨_, by rw [List.getElem?_append_right (by omega)]; simp [h2], off _ _ _ h5⟩
  · obtain ⟨u, k1, k2⟩ := h3 i (by omega)
    exact ⟨u, by rw [List.getElem?_append_left (by omega)]; exact k1, off _ _ _ k2⟩

set_option maxRecDepth 100000 in
set_option maxHeartbeats 6400000 in
theorem tops_any {b0 : Nat} {w : World} {g : Nat} {a : RA} {F : List Nat} (h : RS b0 w g a F) :
    Calls Try.prog 19 #[.pointer (some ⟨g, 0, none⟩)] w fun e w' => ∃ v, e = .returned v ∧ LL w.heap.size w'.heap.size w' v (topsA a) ∧ Fr [] w w' := by
  have H := Lib.hid h
  obtain ⟨i2, hi2, hz2, hs2, hb2⟩ := info_parts int_info
  obtain ⟨i3, hi3, hz3, hs3, hb3⟩ := info_parts ints_info
  clear h
  go_enter Try.func19, Try.ntmps19
  go_wp2_with fail
  go_loopw [3, 4] (fun v i wr => ∃ k : Nat, k ≤ 8 ∧ i = .int .i64 k ∧ Hid (Tp a w v k wr)) (fun _ i _ => 8 - (intOf i).toNat)
  case atStart => exact ⟨0, by omega, rfl, [], Lst.nil _ _ _ _, rfl, fun i hi => by omega, Fr.refl _ _⟩
  case round =>
    obtain ⟨k, hk, rfl, HT⟩ := hrel
    obtain ⟨wo, rfl⟩ : ∃ wo, wo = wr := ⟨_, rfl⟩
    by_cases hlt : k < 8
    · have HW : Hid (Fr [] w wo) := HT.out.choose_spec.2.2.2
      have hd : decide ((k : Int) < 8) = true := decide_eq_true (by omega)
      go_wp2_with fail
      refine (frames_any (H.out.nil HW.out) (k : Int)).mono ?_
      intro e w2 hnl
      obtain ⟨vf, rfl, hvf, hff⟩ := hnl.nl
      obtain ⟨Af, cf, rfl, hcf, hcm⟩ := hvf.look
      have HVF := Lib.hid hvf
      have HFF := Lib.hid hff
      have hsz := hff.size
      clear hnl hvf hff
      obtain ⟨tl, htl⟩ : ∃ tl, (topOf a k).length = tl := ⟨_, rfl⟩
      have htl4 : tl ≤ 4096 := by rw [← htl]; exact topOf_len H.out k
      have HTL := Lib.hid htl
      obtain ⟨fl, hfl⟩ : ∃ fl, framesA a (k : Int) = fl := ⟨_, rfl⟩
      rw [hfl] at HVF hcf ⊢
      have HFL := Lib.hid hfl
      obtain ⟨m, hm⟩ : ∃ m, fl.length = m := ⟨_, rfl⟩
      rw [hm] at HVF hcf ⊢
      have HM := Lib.hid hm
      have hm6 : m ≤ 9223372036854775807 := by unfold maxLen at hcm; omega
      clear htl hfl hm hcm hcf
      go_upto_region 8 with fail
      go_loopw [5, 7] (fun v5 ii wi => ∃ j : Nat, j ≤ tl ∧ ii = .int .i64 j ∧ Hid (Lst wi w2.heap.size 3 1 v5 j (iV ((topOf a k).take j))) ∧ Hid (Fr [] w2 wi)) (fun _ ii _ => tl - (intOf ii).toNat)
      case atStart => exact ⟨0, by omega, rfl, Lst.nil _ _ _ _, Fr.refl _ _⟩
      case round =>
        obtain ⟨j, hj, rfl, HL5, HFW⟩ := hrel
        have HFI : Hid (Fr [] wo wr) := HFF.out.trans HFW.out (by simp)
        by_cases hfl : m = 0
        · have htl0 : tl = 0 := by
            rw [← HTL.out, framesA_nil (by rw [HFL.out]; exact List.eq_nil_of_length_eq_zero (by rw [HM.out]; exact hfl))]
            rfl
          obtain rfl : tl = j := by omega
          have hm0 : decide ((0 : Int) < (m : Int)) = false := decide_eq_false (by omega)
          have hm1 : decide (0 < m) = false := decide_eq_false (by omega)
          clear hfl htl0
          have hall : (topOf a k).take tl = topOf a k := List.take_of_length_le (by rw [HTL.out]; exact Nat.le_refl _)
          rw [hall] at HL5
          clear hall
          obtain ⟨A5, c5, rfl, hc5, _⟩ := HL5.out.look
          obtain ⟨vs, h1, h2, h3, h4⟩ := (HT.out.fr HFI.out)
          have H1 := Lib.hid h1
          have H2 := Lib.hid h2
          have H3 := Lib.hid h3
          have H4 := Lib.hid h4
          have hszi := h4.size
          clear h1 h2 h3 h4 hc5
          go_wp2_with (at_builtin; refine wpList_append_lst _ rfl (.tmp 45) (.tmp 47) _ rfl w.heap.size 31 i3 _ 1 24 Try.underlying41 hi3 hz3 hs3 hb3 rfl _ k vs rfl (H1.out.alloc _) ⟨wr.heap.size, 0, none⟩ 1 1 [.slice A5 tl c5] rfl rfl (World.news_of_block (heap_alloc_new _ _)) ?c2 ?c3 ?c4 ?c5 ?c6)
          case c2 => simp [Value.oneCell']
          case c3 => unfold maxLen; omega
          case c4 => omega
          case c5 => first | omega | (simp; omega)
          case c6 =>
            intro v2 w3 hown hgrow hat
            have HTP : Hid (Tp a w v2 (k + 1) w3) := by
              have h5 := HL5.out
              rw [← HTL.out] at h5 hown
              exact Tp.snoc _ H1.out H2.out H3.out H4.out (h5.mono (Nat.le_trans HW.out.size HFF.out.size)) hown hgrow
            clear hown hgrow hat
            go_wp2_with fail
            go_roundw
            case rel => exact ⟨k + 1, by omega, by go_num, HTP.out⟩
            case measure => simp [intOf]; omega
        · obtain ⟨q, rfl⟩ : ∃ q, m = q + 1 := ⟨m - 1, by omega⟩
          have hne : framesA a (k : Int) ≠ [] := by rw [HFL.out]; intro e; have := HM.out; rw [e] at this; simp at this
          obtain ⟨hin, hth, hlast⟩ := framesA_last hne
          rw [HFL.out, HTL.out] at hlast
          have hqat : fl[q]? = some (tl : Int) := by
            obtain ⟨C, x, e⟩ := last_split (l := fl) (by rw [← HFL.out]; exact hne)
            rw [e] at hlast ⊢
            have hC : C.length = q := by have := HM.out; rw [e] at this; simpa using this
            simp at hlast
            rw [← hC, ← hlast]
            simp
          have hrd := (HVF.out.fr HFW.out (by simp)).rd.2
          obtain ⟨fb, fo, rfl, _, hcell⟩ := hrd.2 (by rw [HM.out]; omega)
          have cq := hcell q _ hqat
          have i0 : (0 : Int) ≤ (q : Int) := by omega
          have i1 : (q : Int) < ((q + 1 : Nat) : Int) := by omega
          have i1' : (q : Int) < (q : Int) + 1 := by omega
          have i2' : IntKind.i64.wrap (((q + 1 : Nat) : Int) - 1) = (q : Int) := by rw [show ((q + 1 : Nat) : Int) - 1 = (q : Int) by omega]; exact IntWalk.i64_in _ (by omega)
          have i3' : IntKind.i64.wrap (q : Int) = (q : Int) := IntWalk.i64_in _ (by omega)
          have i4 : decide ((0 : Int) < ((q + 1 : Nat) : Int)) = true := decide_eq_true (by omega)
          have i5 : decide ((0 : Int) < (q : Int) + 1) = true := decide_eq_true (by omega)
          have HIN := Lib.hid hin
          have HTH := Lib.hid hth
          clear hne hlast hqat hrd hcell hfl hin hth
          by_cases hlt2 : j < tl
          · have k1 : decide ((j : Int) < (tl : Int)) = true := decide_eq_true (by omega)
            have k2 : decide (j < tl) = true := decide_eq_true hlt2
            obtain ⟨x, hx⟩ : ∃ x, (topOf a k)[j]? = some x := ⟨_, List.getElem?_eq_getElem (by have := HTL.out; omega)⟩
            have HGET : Hid (Calls Try.prog 22 #[.pointer (some ⟨g, 0, none⟩), .int .i64 (k : Int), .int .i64 (j : Int)] wr fun e w' => e = .returned (.tuple #[.int .i64 x, .int .i64 0]) ∧ wr = w') := by
              have := get_any (H.out.nil (HW.out.trans HFI.out (by simp))) (k : Int) (j : Int)
              rw [getA_top HIN.out HTH.out hx] at this
              exact this
            have htk : (topOf a k).take (j + 1) = (topOf a k).take j ++ [x] := by
              obtain ⟨h1, h2⟩ := List.getElem?_eq_some_iff.1 hx
              rw [List.take_succ_eq_append_getElem h1, h2]
            have HTK := Lib.hid htk
            have hszw := HFW.out.size
            clear hx htk
            go_wp2_with fail
            refine (Calls.mono HGET.out ?_)
            rintro e w' ⟨rfl, rfl⟩
            go_wp2_with (at_builtin; refine wpList_append_lst _ rfl (.tmp 41) (.tmp 43) _ rfl w2.heap.size 3 i2 _ 1 8 Try.underlying31 hi2 hz2 hs2 hb2 rfl _ j (iV ((topOf a k).take j)) rfl (HL5.out.alloc _) ⟨wr.heap.size, 0, none⟩ 1 1 [.int .i64 x] rfl rfl (World.news_of_block (heap_alloc_new _ _)) ?c2 ?c3 ?c4 ?c5 ?c6)
            case c2 => simp [Value.oneCell']
            case c3 => unfold maxLen; omega
            case c4 => omega
            case c5 => first | omega | (simp; omega)
            case c6 =>
              intro v2 w3 hown hgrow hat
              have HL6 : Hid (Lst w3 w2.heap.size 3 1 v2 (j + 1) (iV ((topOf a k).take (j + 1)))) := by
                show Lst w3 w2.heap.size 3 1 v2 (j + 1) (iV ((topOf a k).take (j + 1)))
                rw [HTK.out]
                unfold iV at hown ⊢
                rw [List.map_append]
                exact hown
              have HF6 : Hid (Fr [] w2 w3) := ((HFW.out.alloc _).grown hgrow (fun z hz => .inr (by have := (HL5.out.lt z hz).1; omega)))
              clear hown hgrow hat
              go_wp2_with fail
              go_roundw
              case rel => exact ⟨j + 1, by omega, by go_num, HL6.out, HF6.out⟩
              case measure => simp [intOf]; omega
          · obtain rfl : tl = j := by omega
            have k1 : decide ((tl : Int) < (tl : Int)) = false := decide_eq_false (by omega)
            have k2 : decide (tl < tl) = false := decide_eq_false (by omega)
            clear hlt2
            have hall : (topOf a k).take tl = topOf a k := List.take_of_length_le (by rw [HTL.out]; exact Nat.le_refl _)
            rw [hall] at HL5
            clear hall
            obtain ⟨A5, c5, rfl, hc5, _⟩ := HL5.out.look
            obtain ⟨vs, h1, h2, h3, h4⟩ := (HT.out.fr HFI.out)
            have H1 := Lib.hid h1
            have H2 := Lib.hid h2
            have H3 := Lib.hid h3
            have H4 := Lib.hid h4
            have hszi := h4.size
            clear h1 h2 h3 h4 hc5
            go_wp2_with (at_builtin; refine wpList_append_lst _ rfl (.tmp 45) (.tmp 47) _ rfl w.heap.size 31 i3 _ 1 24 Try.underlying41 hi3 hz3 hs3 hb3 rfl _ k vs rfl (H1.out.alloc _) ⟨wr.heap.size, 0, none⟩ 1 1 [.slice A5 tl c5] rfl rfl (World.news_of_block (heap_alloc_new _ _)) ?c2 ?c3 ?c4 ?c5 ?c6)
            case c2 => simp [Value.oneCell']
            case c3 => unfold maxLen; omega
            case c4 => omega
            case c5 => first | omega | (simp; omega)
            case c6 =>
              intro v2 w3 hown hgrow hat
              have HTP : Hid (Tp a w v2 (k + 1) w3) := by
                have h5 := HL5.out
                rw [← HTL.out] at h5 hown
                exact Tp.snoc _ H1.out H2.out H3.out H4.out (h5.mono (Nat.le_trans HW.out.size HFF.out.size)) hown hgrow
              clear hown hgrow hat
              go_wp2_with fail
              go_roundw
              case rel => exact ⟨k + 1, by omega, by go_num, HTP.out⟩
              case measure => simp [intOf]; omega
    · obtain rfl : k = 8 := by omega
      have HW : Hid (Fr [] w wo) := HT.out.choose_spec.2.2.2
      have hd : decide (((8 : Nat) : Int) < 8) = false := by decide
      go_wp2_with fail
      go_ret
      obtain ⟨vs, h1, h2, h3, h4⟩ := HT.out
      refine ⟨_, rfl, ⟨vs, h1, by rw [h2]; rfl, fun i l hl => ?_, fun q hq => (h1.lt q hq).2⟩, h4⟩
      have hi : i < 8 := by have := (List.getElem?_eq_some_iff.1 hl).1; simpa [topsA] using this
      obtain ⟨u, k1, k2⟩ := h3 i hi
      have e : l = topOf a i := by
        unfold topsA at hl
        rw [List.getElem?_map, List.getElem?_range hi] at hl
        injection hl with hl
        exact hl.symm
      subst e
      exact ⟨u, k1, k2, fun q hq => (k2.lt q hq).2⟩
end Go.Proofs.Ytdjemkgnhohcdaa
