/-
  Bag: tables: Drop.
-/
import Derived.Test.YtdjaalkbpdmdgaaGreatBgz22
namespace Go.Proofs.YtdjaalkbpdmdgaaGreat
open Go.RowKit
set_option linter.unusedVariables false

/-- The rear part moved back by one element: l[at:] from l[at+1:]; the last one stays. -/
theorem copy_back {P : Program} {w : World} {b0 : Nat} {tp ts ty : TypeId} {b o n cap at_ : Nat} {xs : List Value} (h : Lst w b0 tp 2 (.slice (some ⟨b, o, none⟩) n cap) n xs) (hat : at_ < n)
    (hu : P.underlying ts = some (.slice tp)) (hs : (P.info? tp).map (·.size) = some 2) (h1 : ∀ v ∈ xs, v.oneCell' = true) :
    ∃ w', (Builtin.copy_ #[ts, ts] ty #[.slice (some ⟨b, o + at_ * 2, none⟩) (n - at_) (cap - at_), .slice (some ⟨b, if cap = at_ + 1 then o else o + (at_ + 1) * 2, none⟩) (n - (at_ + 1)) (cap - (at_ + 1))]).run P w = .ok (goInt ((n - (at_ + 1) : Nat) : Int)) w' ∧
      Lst w' b0 tp 2 (.slice (some ⟨b, o, none⟩) n cap) n (xs.take (at_ * 2) ++ xs.drop ((at_ + 1) * 2) ++ xs.drop ((n - 1) * 2)) ∧ Fr [b] w w' := by
  have hlen := h.1
  rcases h.2 with ⟨hv, _⟩ | ⟨g', off', cap', cur, hv, hb, hg, hnc, hcm, hsz, ht⟩
  · cases hv
  · injection hv with hv1 hv2 hv3
    injection hv1 with hv1
    injection hv1 with e1 e2
    subst e1 e2 hv3
    obtain ⟨cs, hcs⟩ : ∃ cs, xs.drop ((at_ + 1) * 2) = cs := ⟨_, rfl⟩
    have hcl : cs.length = (n - (at_ + 1)) * 2 := by rw [← hcs, List.length_drop, hlen]; omega
    have hmin : Nat.min (n - (at_ + 1)) (n - at_) = n - (at_ + 1) := by show min _ _ = _; omega
    have hcell : ∀ j v, cs[j]? = some v → w.cell? ((⟨b, if cap = at_ + 1 then o else o + (at_ + 1) * 2, none⟩ : Addr).add j) = some v := by
      intro j v hj
      have hjl := (List.getElem?_eq_some_iff.1 hj).1
      rw [if_neg (by omega)]
      have hadd : (⟨b, o + (at_ + 1) * 2, none⟩ : Addr).add j = ⟨b, o + (at_ + 1) * 2 + j, none⟩ := by unfold Addr.add; split <;> simp_all
      rw [hadd, cell_of_row w b (o + (at_ + 1) * 2 + j) cur tp (0, 0) hg]
      rw [← hcs, List.getElem?_drop, ← ht, List.getElem?_take] at hj
      split at hj
      · rw [List.getElem?_drop] at hj
        rw [← Array.getElem?_toList, Nat.add_assoc]
        exact hj
      · cases hj
    have hone : ∀ v ∈ cs, v.oneCell' = true := fun v hv => h1 v (List.mem_of_mem_drop (hcs ▸ hv))
    have hmul : n * 2 ≤ cap * 2 := Nat.mul_le_mul_right _ hnc
    have hrun := run_copy_rowS (P := P) w ts ts ty tp 2 b (o + at_ * 2) (n - at_) (cap - at_) ⟨b, if cap = at_ + 1 then o else o + (at_ + 1) * 2, none⟩ (n - (at_ + 1)) (cap - (at_ + 1)) cur tp cs hu hs hg (by rw [hmin, hcl]) hcell (by rw [hcl]; omega) hone
    rw [hmin] at hrun
    refine ⟨_, hrun, ⟨?_, .inr ⟨b, o, cap, _, rfl, hb, setRow_heap w b cur _ tp _ hg, hnc, hcm, ?_, ?_⟩⟩, ⟨rfl, rfl, rfl, by simp, fun i _ hi => setRow_other w b i _ (by simpa using hi)⟩⟩
    · rw [hcs, List.length_append, List.length_append, List.length_take, List.length_drop, hlen, hcl]
      omega
    · simp only [List.size_toArray, List.length_append, List.length_take, List.length_drop, Array.length_toList]
      rw [hcl]
      omega
    · rw [hcs]
      have hxi : ∀ j, j < n * 2 → xs[j]? = cur.toList[o + j]? := fun j hj => by
        rw [← ht, List.getElem?_take, if_pos hj, List.getElem?_drop]
      have hl1 : (List.take (o + at_ * 2) cur.toList).length = o + at_ * 2 := by rw [List.length_take, Array.length_toList]; omega
      have hl2 : (List.take (at_ * 2) xs).length = at_ * 2 := by rw [List.length_take, hlen]; omega
      apply List.ext_getElem?
      intro i
      rw [List.getElem?_take]
      by_cases hi : i < n * 2
      · rw [if_pos hi, List.getElem?_drop, List.append_assoc, List.append_assoc]
        by_cases hi2 : i < at_ * 2
        · rw [List.getElem?_append_left (by rw [hl1]; omega), List.getElem?_append_left (by rw [hl2]; exact hi2), List.getElem?_take, if_pos (by omega), List.getElem?_take, if_pos hi2, hxi i hi]
        · have hR : (List.take (at_ * 2) xs ++ (cs ++ xs.drop ((n - 1) * 2)))[i]? = (cs ++ xs.drop ((n - 1) * 2))[i - at_ * 2]? := by
            rw [List.getElem?_append_right (by rw [hl2]; omega), hl2]
          rw [hR, List.getElem?_append_right (by rw [hl1]; omega), hl1, show o + i - (o + at_ * 2) = i - at_ * 2 by omega]
          by_cases hi3 : i < (n - 1) * 2
          · rw [List.getElem?_append_left (by rw [hcl]; omega), List.getElem?_append_left (by rw [hcl]; omega)]
          · rw [List.getElem?_append_right (by rw [hcl]; omega), List.getElem?_append_right (by rw [hcl]; omega), List.getElem?_drop, List.getElem?_drop, hcl]
            rw [hxi _ (by omega)]
            congr 1
            omega
      · rw [if_neg hi, List.getElem?_eq_none]
        rw [List.length_append, List.length_append, hl2, hcl, List.length_drop, hlen]
        omega

/-- The list without the key. -/
def tdropN (l : List PN) (k : Int) : List PN := if pbN l k then l.take (plN l k) ++ l.drop (plN l k + 1) else l

set_option maxHeartbeats 1600000 in
theorem dropN_no (b0 g : Nat) (v : Value) (l : List PN) (k : Int) (w : World) (h : TbN b0 w g v l) (hl : l.length ≤ 1000000000) (hb : pbN l k = false) :
    Calls Tryz.prog 60 #[.pointer (some ⟨g, 0, none⟩), kN k] w (TbNTo b0 g v (tdropN l k) (.bool false) w) := by
  have HPL : Hid (Calls Tryz.prog 90 #[v, kN k] w fun e w' => e = .returned (.tuple #[.int .i64 (plN l k : Nat), .bool (pbN l k)]) ∧ w = w') := placeN b0 _ l k w h.L (by omega)
  have e : tdropN l k = l := by unfold tdropN; rw [if_neg (by rw [hb]; simp)]
  rw [e]
  rw [hb] at HPL
  have c0 : w.cell? ⟨g, 0, none⟩ = some v := h.B.cell 0
  have H := Lib.hid h
  clear h hb e hl
  unfold kN at *
  go_enter Tryz.func60, Tryz.ntmps60
  go_wp2_with fail
  refine (Calls.mono HPL.out ?_)
  rintro e w1 ⟨rfl, rfl⟩
  go_wp2_with fail
  go_ret
  exact ⟨rfl, v, H.out, Fr.refl _ _, fun x hx => .inl hx⟩

set_option maxRecDepth 100000 in
set_option maxHeartbeats 1600000 in
theorem dropN_yes (b0 g : Nat) (v : Value) (l : List PN) (k : Int) (w : World) (h : TbN b0 w g v l) (hl : l.length ≤ 1000000000) (hb : pbN l k = true) :
    Calls Tryz.prog 60 #[.pointer (some ⟨g, 0, none⟩), kN k] w (TbNTo b0 g v (tdropN l k) (.bool true) w) := by
  have HPL : Hid (Calls Tryz.prog 90 #[v, kN k] w fun e w' => e = .returned (.tuple #[.int .i64 (plN l k : Nat), .bool (pbN l k)]) ∧ w = w') := placeN b0 _ l k w h.L (by omega)
  obtain ⟨Q, hQ⟩ : ∃ Q, plN l k = Q := ⟨_, rfl⟩
  have hres : tdropN l k = l.take Q ++ l.drop (Q + 1) := by unfold tdropN; rw [if_pos hb, hQ]
  have hp1 := hb
  unfold pbN at hp1
  have hlt : Q < l.length := by
    cases hh : l[plN l k]? with
    | none => rw [hh] at hp1; cases hp1
    | some p => rw [← hQ]; exact (List.getElem?_eq_some_iff.1 hh).1
  rw [hQ, hb] at HPL
  obtain ⟨n, hn⟩ : ∃ n, l.length = n := ⟨_, rfl⟩
  have hL := h.L
  rw [hn] at hL hl hlt
  have hne : ∀ j, v.ownBlock = some j → j ≠ g := hL.ne_bk h.B (by decide)
  obtain ⟨b, o, cp, rfl, hbb, hbl, hnc, hcm, _, hfz, _⟩ := hL.form (by omega)
  have hbg : b ≠ g := hne b rfl
  have c0 : w.cell? ⟨g, 0, none⟩ = some (.slice (some ⟨b, o, none⟩) n cp) := h.B.cell 0
  have HB := Lib.hid h.B
  have HGB := Lib.hid h.b
  have HL := Lib.hid hL
  have HRES := Lib.hid hres
  have HN := Lib.hid hn
  have hcl : cp ≤ 9223372036854775807 := by unfold maxLen at hcm; omega
  clear h hb hL hQ hres hn hp1 hne hfz hcm
  obtain ⟨z, hz⟩ : ∃ z, z = w.drew := ⟨_, rfl⟩
  have HZ := Lib.hid hz
  have HBz : Hid (Bk z g 127 #[.slice (some ⟨b, o, none⟩) n cp]) := by rw [hz]; exact HB.out.drew
  have HLz : Hid (Lst z b0 138 2 (.slice (some ⟨b, o, none⟩) n cp) n (cellsN l)) := by rw [hz]; exact HL.out.drew
  have HFz : Hid (Fr (skT g (.slice (some ⟨b, o, none⟩) n cp)) w z) := by rw [hz]; exact (Fr.refl _ _).drew
  have cgz : z.cell? ⟨g, 0, none⟩ = some (.slice (some ⟨b, o, none⟩) n cp) := HBz.out.cell 0
  obtain ⟨w8, hcp, hL8, hf8⟩ := copy_back (P := Tryz.prog) (ts := 125) (ty := 3) HLz.out hlt Tryz.underlying125 pairN_size (fun u hu => cells2_one _ _ (fun _ => rfl) (fun _ => rfl) l u hu)
  have i0 : (0 : Int) ≤ (Q : Int) := by omega
  have i1 : (0 : Int) ≤ (Q : Int) + 1 := by omega
  have i2 : (Q : Int) + 1 ≤ (n : Int) := by omega
  have i3 : (Q : Int) ≤ (n : Int) := by omega
  have i4 : IntKind.i64.wrap ((Q : Int) + 1) = (Q : Int) + 1 := IntWalk.i64_in _ (by omega)
  have i5 : ((Q : Int) + 1).toNat = Q + 1 := by omega
  have i6 : (Q : Int) + 1 ≤ (cp : Int) := by omega
  have i7 : (Q : Int) ≤ (cp : Int) := by omega
  have i11 : cp ≠ Q := by omega
  obtain ⟨r, hr⟩ : ∃ r, n = r + 1 := ⟨n - 1, by omega⟩
  have j1 : (n : Int) - 1 = (r : Int) := by omega
  have j2 : IntKind.i64.wrap ((n : Int) - 1) = (r : Int) := by rw [j1]; exact IntWalk.i64_in _ (by omega)
  have j6 : IntKind.i64.wrap (r : Int) = (r : Int) := IntWalk.i64_in _ (by omega)
  have j3 : (0 : Int) ≤ (r : Int) := by omega
  have j4 : (r : Int) < (n : Int) := by omega
  have j5 : (r : Int) ≤ (cp : Int) := by omega
  obtain ⟨b8, o8, cp8, hv8, _, _, _, _, _, hfz8, hcell8⟩ := hL8.form (by omega)
  injection hv8 with e1 _ e2
  injection e1 with e1
  injection e1 with e1 e3 _
  subst e1 e2 e3
  have hlen8 := hL8.1
  obtain ⟨ys, hys⟩ : ∃ ys, (cellsN l).take (Q * 2) ++ (cellsN l).drop ((Q + 1) * 2) ++ (cellsN l).drop ((n - 1) * 2) = ys := ⟨_, rfl⟩
  rw [hys] at hL8 hcell8 hlen8
  obtain ⟨u0, hu0⟩ : ∃ u, ys[r * 2]? = some u := ⟨_, List.getElem?_eq_getElem (by omega)⟩
  obtain ⟨u1, hu1⟩ : ∃ u, ys[r * 2 + 1]? = some u := ⟨_, List.getElem?_eq_getElem (by omega)⟩
  have cq0 := hcell8 _ _ hu0
  have cq1 := hcell8 _ _ hu1
  rw [← Nat.add_assoc] at cq1
  have fq0 := hfz8 (o + r * 2)
  have fq1 := hfz8 (o + r * 2 + 1)
  have hB8 : Bk w8 g 127 #[.slice (some ⟨b, o, none⟩) n cp] := HBz.out.fr hf8 (by simpa using hbg.symm)
  have c8 := hB8.cell 0
  have f8 := hB8.free 0
  have hgb : g ≠ b := hbg.symm
  have HL8 := Lib.hid hL8
  have HB8 := Lib.hid hB8
  have HF8 : Hid (Fr (skT g (.slice (some ⟨b, o, none⟩) n cp)) w w8) := HFz.out.trans hf8 (fun j hj => .inl (by have : j = b := (by simpa using hj); subst this; simp [skT, Value.ownBlock]))
  have HYS := Lib.hid hys
  have HRR := Lib.hid hr
  clear hcell8 hfz8 hlen8 hL8 hf8 hB8 hu0 hu1 hys hr hz
  have HEND : Hid (∃ v', TbN b0 ((((w8.drew.setCell ⟨b, o + r * 2, none⟩ (Value.int .i64 0)).setCell ⟨b, o + r * 2 + 1, none⟩ (Value.int .u64 0)).drew).setCell ⟨g, 0, none⟩ (.slice (some ⟨b, o, none⟩) r cp)) g v' (tdropN l k) ∧
      Fr (skT g (.slice (some ⟨b, o, none⟩) n cp)) w ((((w8.drew.setCell ⟨b, o + r * 2, none⟩ (Value.int .i64 0)).setCell ⟨b, o + r * 2 + 1, none⟩ (Value.int .u64 0)).drew).setCell ⟨g, 0, none⟩ (.slice (some ⟨b, o, none⟩) r cp)) ∧ ∀ j ∈ skT g v', j ∈ skT g (.slice (some ⟨b, o, none⟩) n cp) ∨ w.heap.size ≤ j) := by
    have hgs : g ∈ skT g (.slice (some ⟨b, o, none⟩) n cp) := by simp [skT]
    have hbs : b ∈ skT g (.slice (some ⟨b, o, none⟩) n cp) := by simp [skT, Value.ownBlock]
    have h1 := ((HL8.out.drew.put (j := r * 2) (Value.int .i64 0)).put (j := r * 2 + 1) (Value.int .u64 0)).drew.shut (k := r) (by omega)
    rw [← Nat.add_assoc] at h1
    have h2 := h1.far (p := ⟨g, 0, none⟩) (fun j hj => by injection hj with hj; rw [← hj]; exact hbg) (.slice (some ⟨b, o, none⟩) r cp)
    have h3 : (tdropN l k).length = r := by rw [HRES.out, List.length_append, List.length_take, List.length_drop, HN.out]; omega
    have h4 : List.take (r * 2) ((ys.set (r * 2) (Value.int .i64 0)).set (r * 2 + 1) (Value.int .u64 0)) = cellsN (tdropN l k) := by
      have hyl : (List.take (r * 2) ys).length ≤ r * 2 := by rw [List.length_take]; omega
      rw [List.take_set, List.take_set, List.set_eq_of_length_le hyl, List.set_eq_of_length_le (by omega), ← HYS.out, HRES.out]
      unfold cellsN
      rw [List.take_left' (by rw [List.length_append, List.length_take, List.length_drop, cells2_length, HN.out]; omega), cells2_append, cells2_take, cells2_drop]
    rw [h4] at h2
    refine ⟨.slice (some ⟨b, o, none⟩) r cp, ⟨?_, ?_, HGB.out⟩, (((((HF8.out.drew).setCell (.inl hbs) _).setCell (.inl hbs) _).drew).setCell (.inl hgs) _), fun j hj => .inl ?_⟩
    · exact ((((HB8.out.drew.far (p := ⟨b, o + r * 2, none⟩) hgb (Value.int .i64 0)).far (p := ⟨b, o + r * 2 + 1, none⟩) hgb (Value.int .u64 0)).drew).put 0 (.slice (some ⟨b, o, none⟩) r cp))
    · rw [h3]
      exact h2
    · simpa [skT, Value.ownBlock] using hj
  unfold kN at *
  by_cases hc : cp = Q + 1
  · subst hc
    have e0 : n - (Q + 1) = 0 := by omega
    have j5' : (r : Int) ≤ (Q : Int) + 1 := by omega
    simp only [if_true, Nat.sub_self, Nat.add_sub_cancel_left, e0] at hcp
    clear e0
    go_enter Tryz.func60, Tryz.ntmps60
    go_wp2_with fail
    refine (Calls.mono HPL.out ?_)
    rintro e w1 ⟨rfl, rfl⟩
    go_upto_region 4 with fail
    refine wp_region_still_tail 13 (by kernel_rfl) (by kernel_rfl) ?_
    change wpStill _ _ w.drew _ _ _
    rw [← HZ.out]
    simp only [List.take_succ_cons, List.take_zero, List.drop_succ_cons, List.drop_zero]
    repeat still_step
    refine wpStill_nil ?_
    change wpList _ _ _ _ _ w.drew
    rw [← HZ.out]
    go_wp2_with fail
    obtain ⟨z8, hz8⟩ : ∃ z8, z8 = w8.drew := ⟨_, rfl⟩
    have d0 : z8.cell? ⟨g, 0, none⟩ = some (.slice (some ⟨b, o, none⟩) n (Q + 1)) := by rw [hz8]; exact HB8.out.cell 0
    have d1 : z8.cell? ⟨b, o + r * 2, none⟩ = some u0 := by rw [hz8]; exact cq0
    have d2 : z8.cell? ⟨b, o + r * 2 + 1, none⟩ = some u1 := by rw [hz8]; exact cq1
    have d3 : z8.frozen? ⟨b, o + r * 2, none⟩ = false := by rw [hz8]; exact fq0
    have d4 : z8.frozen? ⟨b, o + r * 2 + 1, none⟩ = false := by rw [hz8]; exact fq1
    have HZ8 := Lib.hid hz8
    clear hz8 c8 cq0 cq1 fq0 fq1 hcp
    refine wp_region_still_tail 12 (by kernel_rfl) (by kernel_rfl) ?_
    change wpStill _ _ w8.drew _ _ _
    rw [← HZ8.out]
    simp only [List.take_succ_cons, List.take_zero, List.drop_succ_cons, List.drop_zero]
    repeat still_step
    refine wpStill_nil ?_
    change wpList _ _ _ _ _ w8.drew
    rw [← HZ8.out]
    go_wp2_with fail
    rw [HZ8.out]
    obtain ⟨yy, hyy⟩ : ∃ yy, yy = (w8.drew.setCell ⟨b, o + r * 2, none⟩ (Value.int .i64 0)).setCell ⟨b, o + r * 2 + 1, none⟩ (Value.int .u64 0) := ⟨_, rfl⟩
    obtain ⟨y9, hy9⟩ : ∃ y9, y9 = yy.drew := ⟨_, rfl⟩
    have e0 : y9.cell? ⟨g, 0, none⟩ = some (.slice (some ⟨b, o, none⟩) n (Q + 1)) := by rw [hy9, hyy]; exact (((HB8.out.drew.far (p := ⟨b, o + r * 2, none⟩) hgb (Value.int .i64 0)).far (p := ⟨b, o + r * 2 + 1, none⟩) hgb (Value.int .u64 0)).drew).cell 0
    have e1 : y9.frozen? ⟨g, 0, none⟩ = false := by rw [hy9, hyy]; exact (((HB8.out.drew.far (p := ⟨b, o + r * 2, none⟩) hgb (Value.int .i64 0)).far (p := ⟨b, o + r * 2 + 1, none⟩) hgb (Value.int .u64 0)).drew).free 0
    rw [← hyy] at HEND ⊢
    rw [← hy9] at HEND
    have HY9 := Lib.hid hy9
    clear hyy hy9 d0 d1 d2 d3 d4
    refine wp_region_still_tail 14 (by kernel_rfl) (by kernel_rfl) ?_
    change wpStill _ _ yy.drew _ _ _
    rw [← HY9.out]
    simp only [List.take_succ_cons, List.take_zero, List.drop_succ_cons, List.drop_zero]
    repeat still_step
    refine wpStill_nil ?_
    change wpList _ _ _ _ _ yy.drew
    rw [← HY9.out]
    go_wp2_with fail
    go_ret
    exact ⟨rfl, HEND.out⟩
  · rw [if_neg hc] at hcp
    go_enter Tryz.func60, Tryz.ntmps60
    go_wp2_with fail
    refine (Calls.mono HPL.out ?_)
    rintro e w1 ⟨rfl, rfl⟩
    go_upto_region 4 with fail
    refine wp_region_still_tail 13 (by kernel_rfl) (by kernel_rfl) ?_
    change wpStill _ _ w.drew _ _ _
    rw [← HZ.out]
    simp only [List.take_succ_cons, List.take_zero, List.drop_succ_cons, List.drop_zero]
    repeat still_step
    refine wpStill_nil ?_
    change wpList _ _ _ _ _ w.drew
    rw [← HZ.out]
    go_wp2_with fail
    obtain ⟨z8, hz8⟩ : ∃ z8, z8 = w8.drew := ⟨_, rfl⟩
    have d0 : z8.cell? ⟨g, 0, none⟩ = some (.slice (some ⟨b, o, none⟩) n cp) := by rw [hz8]; exact HB8.out.cell 0
    have d1 : z8.cell? ⟨b, o + r * 2, none⟩ = some u0 := by rw [hz8]; exact cq0
    have d2 : z8.cell? ⟨b, o + r * 2 + 1, none⟩ = some u1 := by rw [hz8]; exact cq1
    have d3 : z8.frozen? ⟨b, o + r * 2, none⟩ = false := by rw [hz8]; exact fq0
    have d4 : z8.frozen? ⟨b, o + r * 2 + 1, none⟩ = false := by rw [hz8]; exact fq1
    have HZ8 := Lib.hid hz8
    clear hz8 c8 cq0 cq1 fq0 fq1 hcp
    refine wp_region_still_tail 12 (by kernel_rfl) (by kernel_rfl) ?_
    change wpStill _ _ w8.drew _ _ _
    rw [← HZ8.out]
    simp only [List.take_succ_cons, List.take_zero, List.drop_succ_cons, List.drop_zero]
    repeat still_step
    refine wpStill_nil ?_
    change wpList _ _ _ _ _ w8.drew
    rw [← HZ8.out]
    go_wp2_with fail
    rw [HZ8.out]
    obtain ⟨yy, hyy⟩ : ∃ yy, yy = (w8.drew.setCell ⟨b, o + r * 2, none⟩ (Value.int .i64 0)).setCell ⟨b, o + r * 2 + 1, none⟩ (Value.int .u64 0) := ⟨_, rfl⟩
    obtain ⟨y9, hy9⟩ : ∃ y9, y9 = yy.drew := ⟨_, rfl⟩
    have e0 : y9.cell? ⟨g, 0, none⟩ = some (.slice (some ⟨b, o, none⟩) n cp) := by rw [hy9, hyy]; exact (((HB8.out.drew.far (p := ⟨b, o + r * 2, none⟩) hgb (Value.int .i64 0)).far (p := ⟨b, o + r * 2 + 1, none⟩) hgb (Value.int .u64 0)).drew).cell 0
    have e1 : y9.frozen? ⟨g, 0, none⟩ = false := by rw [hy9, hyy]; exact (((HB8.out.drew.far (p := ⟨b, o + r * 2, none⟩) hgb (Value.int .i64 0)).far (p := ⟨b, o + r * 2 + 1, none⟩) hgb (Value.int .u64 0)).drew).free 0
    rw [← hyy] at HEND ⊢
    rw [← hy9] at HEND
    have HY9 := Lib.hid hy9
    clear hyy hy9 d0 d1 d2 d3 d4
    refine wp_region_still_tail 14 (by kernel_rfl) (by kernel_rfl) ?_
    change wpStill _ _ yy.drew _ _ _
    rw [← HY9.out]
    simp only [List.take_succ_cons, List.take_zero, List.drop_succ_cons, List.drop_zero]
    repeat still_step
    refine wpStill_nil ?_
    change wpList _ _ _ _ _ yy.drew
    rw [← HY9.out]
    go_wp2_with fail
    go_ret
    exact ⟨rfl, HEND.out⟩

theorem dropN_any (b0 g : Nat) (v : Value) (l : List PN) (k : Int) (w : World) (h : TbN b0 w g v l) (hl : l.length ≤ 1000000000) :
    Calls Tryz.prog 60 #[.pointer (some ⟨g, 0, none⟩), kN k] w (TbNTo b0 g v (tdropN l k) (.bool (pbN l k)) w) := by
  cases hb : pbN l k with
  | true => exact dropN_yes b0 g v l k w h hl hb
  | false => exact dropN_no b0 g v l k w h hl hb
end Go.Proofs.YtdjaalkbpdmdgaaGreat
