/-
  Roots: many(): twenty roots beside one another hold each its own.
-/
import Derived.Test.YtdcppdgnekhcgaaGreatDoorFr4
namespace Go.Proofs.YtdcppdgnekhcgaaGreatDoor
open Go.RowKit
set_option maxRecDepth 100000
set_option linter.unusedVariables false

theorem rptr_info : (Tryz.prog.info? 48).map (fun i => (i.zero, i.size, i.bytes)) = some (some (.pointer none), 1, 8) := by kernel_rfl
theorem rdi_new (w : World) (l : List Int) (hl : l.length ≤ 9223372036854775807) : RdI (w.alloc (.cells (l.map (Value.int .i64)).toArray 3)) (some ⟨w.heap.size, 0, none⟩) l := by
  refine ⟨hl, fun _ => ⟨w.heap.size, 0, rfl, by simp, fun i x hx => ?_⟩⟩
  have h : Bk (w.alloc (.cells (l.map (Value.int .i64)).toArray 3)) w.heap.size 3 (l.map (Value.int .i64)).toArray := Bk.new _ _ _
  rw [h.cell, List.getElem?_toArray, Nat.zero_add, List.getElem?_map, hx]
  rfl
/-- Twenty, of which the first k are played. -/
def Pl (k : Nat) (T : List Rr) : Prop := T.length = 20 ∧ ∀ (j : Nat) (t : Rr), T[j]? = some t → t.a = if j < k then mkQ (100 + (j : Int)) (1 + (j : Int)) (200 + (j : Int)) else mk0
theorem ptrs_len (T : List Rr) : (ptrs T).length = T.length := by simp [ptrs]
theorem ptrs_at {T : List Rr} {k : Nat} {t : Rr} (h : T[k]? = some t) : (ptrs T)[k]? = some (ptrV t.g) := by
  unfold ptrs
  rw [List.getElem?_map, h]
  rfl
theorem ptrs_set {T : List Rr} {k g : Nat} {a a' : RA} {F F' : List Nat} (h : T[k]? = some ⟨g, a, F⟩) : ptrs (T.set k ⟨g, a', F'⟩) = ptrs T := by
  obtain ⟨h1, h2⟩ := List.getElem?_eq_some_iff.1 h
  unfold ptrs
  rw [List.map_set]
  have : ptrV g = (T.map fun t => ptrV t.g)[k]'(by simpa using h1) := by rw [List.getElem_map, h2]
  show (T.map fun t => ptrV t.g).set k (ptrV g) = _
  rw [this]
  exact List.set_getElem_self _
theorem Pl.get {T : List Rr} {k j : Nat} (h : Pl k T) (hj : j < 20) : ∃ g F, T[j]? = some ⟨g, if j < k then mkQ (100 + (j : Int)) (1 + (j : Int)) (200 + (j : Int)) else mk0, F⟩ := by
  have hl : j < T.length := by rw [h.1]; exact hj
  have e := List.getElem?_eq_getElem hl
  have ha := h.2 j _ e
  rw [e, ← ha]
  exact ⟨_, _, rfl⟩
theorem Pl.next {T : List Rr} {k g : Nat} {F : List Nat} (h : Pl k T) (hk : k < 20) : Pl (k + 1) (T.set k ⟨g, mkQ (100 + (k : Int)) (1 + (k : Int)) (200 + (k : Int)), F⟩) := by
  have hl : k < T.length := by rw [h.1]; exact hk
  refine ⟨by rw [List.length_set]; exact h.1, fun j t ht => ?_⟩
  by_cases e : k = j
  · subst e
    rw [List.getElem?_set_self hl] at ht
    cases ht
    rw [if_pos (by omega)]
  · rw [List.getElem?_set_ne e] at ht
    rw [h.2 j t ht]
    by_cases e2 : j < k
    · rw [if_pos e2, if_pos (by omega)]
    · rw [if_neg e2, if_neg (by omega)]
theorem Pl.start {T : List Rr} (hT : T.length = 20) (h : ∀ t ∈ T, t.a = mk0) : Pl 0 T :=
  ⟨hT, fun j t ht => by rw [if_neg (by omega)]; exact h t (List.mem_of_getElem? ht)⟩

set_option maxHeartbeats 8000000 in
theorem many_any (w : World) : Calls Tryz.prog 19 #[] w fun e w' => e = .returned (.bool true) ∧ Fr [] w w' := by
  obtain ⟨i1, hi1, hz1, hs1, hb1⟩ := info_parts rptr_info
  have HX := Lib.hid (Mny.start w)
  go_enter Tryz.func19, Tryz.ntmps19
  go_wp2_with fail
  go_loopw [1, 2] (fun v i wr => ∃ k : Nat, k ≤ 20 ∧ i = .int .i64 k ∧ Hid (∃ T : List Rr, T.length = k ∧ (∀ t ∈ T, t.a = mk0) ∧ Mny w v (ptrs T) T wr)) (fun _ i _ => 20 - (intOf i).toNat)
  case atStart => exact ⟨0, by omega, rfl, [], rfl, by simp, HX.out⟩
  case round =>
    obtain ⟨k, hk, rfl, hx⟩ := hrel
    by_cases hlt : k < 20
    · obtain ⟨T, hT, h0, hM⟩ := hx.out
      have HY := Lib.hid hM
      have H0 := Lib.hid h0
      have HT := Lib.hid hT
      have HTP : Hid ((ptrs T).length = T.length) := ptrs_len T
      clear hM h0 hT hx HX
      go_wp2_with fail
      refine (HY.out.new).mono ?_
      rintro e w1 ⟨g, F, rfl, h1⟩
      have H1 := Lib.hid h1
      clear h1 HY
      go_wp2_with fail
      refine (H1.out.push).mono ?_
      rintro e w2 ⟨rfl, F2, h2⟩
      have H2 := Lib.hid h2
      clear h2 H1
      have HF2 := Lib.hid H2.out.fr.size
      go_wp2_with (at_builtin; refine wpList_append_lst _ rfl (.tmp 28) (.tmp 30) _ rfl w.heap.size 48 i1 _ 1 8 Tryz.underlying96 hi1 hz1 hs1 hb1 rfl _ (ptrs T).length (ptrs T) rfl (H2.out.lst.alloc _) ⟨w2.heap.size, 0, none⟩ 1 1 [.pointer (some ⟨g, 0, none⟩)] rfl rfl (World.news_of_block (heap_alloc_new _ _)) ?c2 ?c3 ?c4 ?c5 ?c6)
      case c2 => simp [Value.oneCell']
      case c3 => have := HT.out; have := HTP.out; unfold maxLen; omega
      case c4 => have := HT.out; have := HTP.out; omega
      case c5 => have := HF2.out; simp; omega
      case c6 =>
        intro v' w' hown hgrow hat
        have HE : Hid (∃ T' : List Rr, T'.length = k + 1 ∧ (∀ t ∈ T', t.a = mk0) ∧ Mny w v' (ptrs T') T' w') := by
          have e : ptrs (T ++ [⟨g, mk0, F2⟩]) = ptrs T ++ [.pointer (some ⟨g, 0, none⟩)] := by simp [ptrs, ptrV]
          refine ⟨T ++ [⟨g, mk0, F2⟩], by simp [HT.out], fun t ht => ?_, ?_⟩
          · rcases List.mem_append.1 ht with ht | ht
            · exact H0.out t ht
            · rw [List.mem_singleton.1 ht]
          · rw [e]
            refine H2.out.grown (S := u1.ownBlock.toList) (((Fr.refl [] _).alloc _ |>.mono (by simp)).grown hgrow (by simp; exact fun x hx => .inl hx)) (fun x hx => hx) (by rw [List.length_append]; exact hown) ?_
            rcases hat with h | h
            · exact .inl h
            · exact .inr ⟨_, h, by simp⟩
        clear hown hgrow hat H2
        go_wp2_with fail
        go_roundw
        case rel => exact ⟨k + 1, by omega, by go_num, HE.out⟩
        case measure => simp [intOf]; omega
    · have hk20 : k = 20 := by omega
      obtain ⟨T, hT, h0, hM⟩ := hx.out
      rw [hk20] at hT
      clear hk20
      obtain ⟨b, off, cap, hv, hcap⟩ := hM.cell ((ptrs_len T).trans hT) (by omega)
      subst hv
      obtain ⟨vs, hvs⟩ : ∃ vs, vs = ptrs T := ⟨_, rfl⟩
      rw [← hvs] at hM
      have HM : Hid (∃ T : List Rr, Pl 0 T ∧ vs = ptrs T ∧ Mny w (.slice (some ⟨b, off, none⟩) 20 cap) vs T wr) := ⟨T, Pl.start hT h0, hvs, hM⟩
      clear hM h0 hT hvs hx HX
      go_wp2_with fail
      go_loopw [5] (fun i wr => ∃ k : Nat, k ≤ 20 ∧ i = .int .i64 k ∧ Hid (∃ T : List Rr, Pl k T ∧ vs = ptrs T ∧ Mny w (.slice (some ⟨b, off, none⟩) 20 cap) vs T wr)) (fun i _ => 20 - (intOf i).toNat)
      case atStart => exact ⟨0, by omega, rfl, HM.out⟩
      case round =>
        obtain ⟨k, hk, rfl, hx⟩ := hrel
        by_cases hlt : k < 20
        · obtain ⟨T, hT, hvs, hM⟩ := hx.out
          obtain ⟨g, F, hg⟩ := hT.get hlt
          rw [if_neg (by omega)] at hg
          have hu : vs[k]? = some (.pointer (some ⟨g, 0, none⟩)) := by rw [hvs]; exact ptrs_at hg
          have HU := Lib.hid hu
          have HV := Lib.hid hvs
          have HT := Lib.hid hT
          have HG := Lib.hid hg
          have HY := Lib.hid hM
          clear hM hT hvs hx HM hg hu
          have c0 := HY.out.load HU.out
          go_wp2_with fail
          refine (HY.out.opens HG.out (100 + (k : Int)) (by omega)).mono ?_
          rintro e w1 ⟨rfl, F1, h1⟩
          have H1 := Lib.hid h1
          have HL : Hid (k < T.length) := (List.getElem?_eq_some_iff.1 HG.out).1
          clear h1 HY c0
          have c1 := H1.out.load HU.out
          go_wp2_with fail
          refine (H1.out.sets (by rw [List.getElem?_set_self HL.out]) (1 + (k : Int)) (by omega)).mono ?_
          rintro e w2 ⟨rfl, F2, h2⟩
          rw [List.set_set] at h2
          have H2 := Lib.hid h2
          clear h2 H1 c1
          have c2 := H2.out.load HU.out
          go_wp2_with fail
          refine (H2.out.enqs (by rw [List.getElem?_set_self HL.out]) (200 + (k : Int)) (by omega)).mono ?_
          rintro e w3 ⟨rfl, F3, h3⟩
          rw [List.set_set] at h3
          have HE : Hid (∃ T : List Rr, Pl (k + 1) T ∧ vs = ptrs T ∧ Mny w (.slice (some ⟨b, off, none⟩) 20 cap) vs T w3) := ⟨_, HT.out.next (g := g) (F := F3) hlt, HV.out.trans (ptrs_set HG.out).symm, h3⟩
          clear h3 H2 c2
          go_wp2_with fail
          go_roundw
          case rel => exact ⟨k + 1, by omega, by go_num, HE.out⟩
          case measure => simp [intOf]; omega
        · have hk20 : k = 20 := by omega
          obtain ⟨T, hT, hvs, hM⟩ := hx.out
          rw [hk20] at hT
          clear hk20
          have HV := Lib.hid hvs
          have HT := Lib.hid hT
          have HM := Lib.hid hM
          clear hM hT hvs hx
          go_wp2_with fail
          go_loopw [8] (fun i wr => ∃ k : Nat, k ≤ 20 ∧ i = .int .i64 ((k : Int) - 1) ∧ Hid (Mny w (.slice (some ⟨b, off, none⟩) 20 cap) vs T wr)) (fun i _ => (intOf i + 1).toNat)
          case atStart => exact ⟨20, by omega, by go_num, HM.out⟩
          case round =>
            obtain ⟨k, hk, rfl, HY⟩ := hrel
            clear HM
            cases k with
            | zero =>
              have HFF : Hid (Fr [] w wr) := HY.out.fr
              clear HY
              go_wp2_with fail
              go_ret
              exact ⟨rfl, HFF.out⟩
            | succ k =>
              have ek : ((k + 1 : Nat) : Int) - 1 = (k : Int) := by omega
              rw [ek]
              have hlt : k < 20 := by omega
              obtain ⟨g, F, hg⟩ := HT.out.get hlt
              rw [if_pos hlt] at hg
              have hu : vs[k]? = some (.pointer (some ⟨g, 0, none⟩)) := by rw [HV.out]; exact ptrs_at hg
              have HU := Lib.hid hu
              have HG := Lib.hid hg
              clear hg hu
              have c0 := HY.out.load HU.out
              go_wp2_with fail
              refine (HY.out.all HG.out (by omega) (by omega) (by omega)).mono ?_
              rintro e z1 ⟨A0, cp0, rfl, hA, hR⟩
              have HA0 := Lib.hid hA
              have HR0 := Lib.hid hR
              clear hA hR HY c0
              go_wp2_with fail
              obtain ⟨z2, hz2⟩ : ∃ z, z = z1.alloc (.cells #[.int .i64 (1 + (k : Int)), .int .i64 (100 + (k : Int)), .int .i64 (200 + (k : Int))] 3) := ⟨_, rfl⟩
              have hf : Fr [] z1 z2 := by rw [hz2]; exact (Fr.refl _ _).alloc _
              have HN0 : Hid (RdI z2 (some ⟨z1.heap.size, 0, none⟩) [1 + (k : Int), 100 + (k : Int), 200 + (k : Int)]) := by rw [hz2]; exact rdi_new z1 [1 + (k : Int), 100 + (k : Int), 200 + (k : Int)] (by simp)
              have HM0 := Lib.hid (HR0.out.fr hf (by simp))
              have HB0 := Lib.hid (HA0.out.quiet hf)
              rw [← hz2]
              clear hz2 hf HR0 HA0
              refine (same_yes A0 (some ⟨z1.heap.size, 0, none⟩) [1 + (k : Int), 100 + (k : Int), 200 + (k : Int)] _ _ _ z2 rfl HM0.out HN0.out).mono ?_
              rintro e z3 ⟨rfl, hf⟩
              have HC0 := Lib.hid (HB0.out.quiet hf)
              clear hf HB0 HM0 HN0
              have c1 := HC0.out.load HU.out
              go_wp2_with fail
              refine (HC0.out.hnds HG.out).mono ?_
              rintro e z4 ⟨A1, cp1, rfl, hA, hR⟩
              have HA1 := Lib.hid hA
              have HR1 := Lib.hid hR
              clear hA hR HC0 c1
              go_wp2_with fail
              obtain ⟨z5, hz5⟩ : ∃ z, z = z4.alloc (.cells #[.int .i64 (100 + (k : Int)), .int .i64 (-1)] 3) := ⟨_, rfl⟩
              have hf : Fr [] z4 z5 := by rw [hz5]; exact (Fr.refl _ _).alloc _
              have HN1 : Hid (RdI z5 (some ⟨z4.heap.size, 0, none⟩) [100 + (k : Int), -1]) := by rw [hz5]; exact rdi_new z4 [100 + (k : Int), -1] (by simp)
              have HM1 := Lib.hid (HR1.out.fr hf (by simp))
              have HB1 := Lib.hid (HA1.out.quiet hf)
              rw [← hz5]
              clear hz5 hf HR1 HA1
              refine (same_yes A1 (some ⟨z4.heap.size, 0, none⟩) [100 + (k : Int), -1] _ _ _ z5 rfl HM1.out HN1.out).mono ?_
              rintro e z6 ⟨rfl, hf⟩
              have HC1 := Lib.hid (HB1.out.quiet hf)
              clear hf HB1 HM1 HN1
              have c2 := HC1.out.load HU.out
              go_wp2_with fail
              refine (HC1.out.queue HG.out).mono ?_
              rintro e z7 ⟨A2, cp2, rfl, hA, hR⟩
              have HA2 := Lib.hid hA
              have HR2 := Lib.hid hR
              clear hA hR HC1 c2
              go_wp2_with fail
              obtain ⟨z8, hz8⟩ : ∃ z, z = z7.alloc (.cells #[.int .i64 (200 + (k : Int))] 3) := ⟨_, rfl⟩
              have hf : Fr [] z7 z8 := by rw [hz8]; exact (Fr.refl _ _).alloc _
              have HN2 : Hid (RdI z8 (some ⟨z7.heap.size, 0, none⟩) [200 + (k : Int)]) := by rw [hz8]; exact rdi_new z7 [200 + (k : Int)] (by simp)
              have HM2 := Lib.hid (HR2.out.fr hf (by simp))
              have HB2 := Lib.hid (HA2.out.quiet hf)
              rw [← hz8]
              clear hz8 hf HR2 HA2
              refine (same_yes A2 (some ⟨z7.heap.size, 0, none⟩) [200 + (k : Int)] _ _ _ z8 rfl HM2.out HN2.out).mono ?_
              rintro e z9 ⟨rfl, hf⟩
              have HC2 := Lib.hid (HB2.out.quiet hf)
              clear hf HB2 HM2 HN2
              have c3 := HC2.out.load HU.out
              go_wp2_with fail
              refine (HC2.out.frms HG.out).mono ?_
              rintro e z10 ⟨A3, cp3, rfl, hA, hR⟩
              have HA3 := Lib.hid hA
              have HR3 := Lib.hid hR
              clear hA hR HC2 c3
              go_wp2_with fail
              obtain ⟨z11, hz11⟩ : ∃ z, z = z10.alloc (.cells #[.int .i64 (2)] 3) := ⟨_, rfl⟩
              have hf : Fr [] z10 z11 := by rw [hz11]; exact (Fr.refl _ _).alloc _
              have HN3 : Hid (RdI z11 (some ⟨z10.heap.size, 0, none⟩) [2]) := by rw [hz11]; exact rdi_new z10 [2] (by simp)
              have HM3 := Lib.hid (HR3.out.fr hf (by simp))
              have HB3 := Lib.hid (HA3.out.quiet hf)
              rw [← hz11]
              clear hz11 hf HR3 HA3
              refine (same_yes A3 (some ⟨z10.heap.size, 0, none⟩) [2] _ _ _ z11 rfl HM3.out HN3.out).mono ?_
              rintro e z12 ⟨rfl, hf⟩
              have HC3 := Lib.hid (HB3.out.quiet hf)
              clear hf HB3 HM3 HN3
              go_wp2_with fail
              go_roundw
              case rel => exact ⟨k, by omega, by go_num, HC3.out⟩
              case measure => first | (simp [intOf]; done) | (simp [intOf]; omega)
end Go.Proofs.YtdcppdgnekhcgaaGreatDoor
