/-
  Roots in general: Push.
-/
import Derived.Test.YtdcppdgnekhcgaaGreatDoorRtS2
namespace Go.Proofs.YtdcppdgnekhcgaaGreatDoor
open Go.RowKit
set_option maxRecDepth 100000
set_option linter.unusedVariables false

set_option maxRecDepth 100000 in
set_option maxHeartbeats 4000000 in
theorem push_any {b0 : Nat} {w : World} {g : Nat} {a : RA} {F : List Nat} (h : RS b0 w g a F) (hb0 : b0 ≤ w.heap.size) (i n : Int) :
    Calls Tryz.prog 45 #[.pointer (some ⟨g, 0, none⟩), .int .i64 i, .int .i64 n] w (RO b0 g (pushA a i n).1 F (.int .i64 (pushA a i n).2) w) := by
  have HRS := Lib.hid h
  obtain ⟨R, hR, rfl, rfl⟩ := h
  have HH := Lib.hid (hR.hasC i w rfl)
  have c0 : w.cell? ⟨g, 0, none⟩ = some (.int .i64 R.S) := hR.B.cell 0
  have c1 : w.cell? ⟨g, 1, none⟩ = some (.slice (some ⟨R.gT, 0, none⟩) R.ths.length R.ths.length) := hR.B.cell 1
  have HR := Lib.hid hR
  have HB0 := Lib.hid hb0
  obtain ⟨o1, o2, o3, o4, o5⟩ := hR.ok
  clear hR hb0
  cases hi : inT R.abs i with
  | false =>
    have e : pushA R.abs i n = (R.abs, 51) := by unfold pushA; rw [if_pos hi]
    rw [hi] at HH
    rw [e]
    clear hi e
    go_enter Tryz.func45, Tryz.ntmps45
    go_wp2_with fail
    refine (Calls.mono HH.out ?_)
    rintro e w' ⟨rfl, rfl⟩
    go_wp2_with fail
    go_ret
    exact RO.same HRS.out (Fr.refl _ _)
  | true =>
    rw [hi] at HH
    by_cases hn : n < 1
    · have e : pushA R.abs i n = (R.abs, 50) := by unfold pushA; rw [if_neg (by rw [hi]; simp), if_pos hn]
      rw [e]
      clear hi e
      have hnd : decide (n < 1) = true := decide_eq_true hn
      go_enter Tryz.func45, Tryz.ntmps45
      go_wp2_with fail
      refine (Calls.mono HH.out ?_)
      rintro e w' ⟨rfl, rfl⟩
      go_wp2_with fail
      go_ret
      exact RO.same HRS.out (Fr.refl _ _)
    · obtain ⟨A, t, B, hth, rfl, hi0, hi1⟩ := inT_split hi
      have HTH := Lib.hid hth
      have ht : t ∈ R.ths := by rw [hth]; simp
      have HT := Lib.hid ht
      have ct := HR.out.th_at hth
      have hL := HR.out.Fs t ht
      obtain ⟨AA, cp, hv, hcp, hcm⟩ := hL.look
      have HTL := Lib.hid hL
      have hroom := HR.out.room t ht
      obtain ⟨m, hm⟩ : ∃ m, t.fs.length = m := ⟨_, rfl⟩
      obtain ⟨T, hT⟩ : ∃ T, R.ths.length = T := ⟨_, rfl⟩
      obtain ⟨S, hS⟩ : ∃ S, R.S = S := ⟨_, rfl⟩
      have hsum : sumL t.ls ≤ S := by rw [← hS]; exact hroom
      have hm4 : m ≤ S := by
        have : t.fs.length ≤ sumL t.ls := by
          have h1 := HR.out.one t ht
          unfold Thr.ls
          generalize t.fs = l at h1
          induction l with
          | nil => simp
          | cons f l ih =>
            have := ih (fun f hf => h1 f (by simp [hf]))
            have := h1 f (by simp)
            simp only [sumL, List.map_cons, List.sum_cons, List.length_cons] at *
            omega
        omega
      rw [hm] at hcp
      have hnd : decide (n < 1) = false := decide_eq_false hn
      have HV := Lib.hid hv
      have HMM := Lib.hid hm
      have HSS := Lib.hid hS
      have HTT := Lib.hid hT
      have HSUM := Lib.hid hsum
      rw [hv, hm] at ct
      rw [hS] at c0 o3 o4
      rw [hT] at c1 hi1 o1 o2
      have HI := Lib.hid hi
      clear hi ht hL hv hm hroom hcp hS hT hsum hth
      have HLS : Hid (t.ls.length = m) := by show t.ls.length = m; rw [← HMM.out]; simp [Thr.ls]
      go_enter Tryz.func45, Tryz.ntmps45
      go_wp2_with fail
      refine (Calls.mono HH.out ?_)
      rintro e w' ⟨rfl, rfl⟩
      go_wp2_with fail
      go_loop [30, 7] (fun j r => ∃ k : Nat, k ≤ m ∧ j = .int .i64 k ∧ r = .int .i64 ((S : Int) - (sumL (t.ls.take k) : Nat))) (fun j _ => m - (intOf j).toNat)
      case atStart => exact ⟨0, by omega, rfl, by simp [sumL]⟩
      case round =>
        obtain ⟨k, hk, rfl, rfl⟩ := hrel
        by_cases hlt : k < m
        · obtain ⟨f, hf⟩ : ∃ f, t.fs[k]? = some f := ⟨_, List.getElem?_eq_getElem (by have := HMM.out; omega)⟩
          obtain ⟨gb, off, cap, hv2, hcf⟩ := HR.out.f_at HT.out hf
          have hv3 := HV.out
          rw [hv3] at hv2
          injection hv2 with hv2 _ _
          subst hv2
          have hls : t.ls[k]? = some f.l := by unfold Thr.ls; rw [List.getElem?_map, hf]; rfl
          have hsucc := sumL_take_succ hls
          have hle1 := sumL_take_le t.ls (k + 1)
          have hs1 := HSUM.out
          have hln : f.l.length ≤ 4096 := by omega
          obtain ⟨s1, hs1'⟩ : ∃ s1, sumL (t.ls.take k) = s1 := ⟨_, rfl⟩
          obtain ⟨s2, hs2'⟩ : ∃ s2, sumL (t.ls.take (k + 1)) = s2 := ⟨_, rfl⟩
          rw [hs1', hs2'] at hsucc
          rw [hs2'] at hle1
          have HS2 := Lib.hid hs2'
          obtain ⟨fl, hfl⟩ : ∃ fl, f.l.length = fl := ⟨_, rfl⟩
          unfold frV at hcf
          rw [hfl] at hcf hsucc hln
          rw [hs1']
          have i0 : (0 : Int) ≤ (k : Int) := by omega
          have i1 : (k : Int) < (m : Int) := by omega
          have hw : IntKind.i64.wrap ((S : Int) - (s1 : Int) - (fl : Int)) = (S : Int) - (s1 : Int) - (fl : Int) := IntWalk.i64_in _ (by omega)
          have HX : Hid (((S : Int) - (s1 : Int) - (fl : Int)) = (S : Int) - (s2 : Int)) := by show ((S : Int) - (s1 : Int) - (fl : Int)) = (S : Int) - (s2 : Int); omega
          clear hls hf hfl hs1' hs2' hsucc hle1 hs1 hv3
          go_wp2_with fail
          go_round
          case rel => exact ⟨k + 1, by omega, by go_num, by rw [HS2.out, HX.out]⟩
          case measure => simp [intOf]; omega
        · obtain rfl : m = k := by omega
          have hall : t.ls.take m = t.ls := List.take_of_length_le (by rw [HLS.out]; exact Nat.le_refl _)
          rw [hall]
          obtain ⟨s, hs⟩ : ∃ s, sumL t.ls = s := ⟨_, rfl⟩
          have hsS : s ≤ S := by have := HSUM.out; omega
          rw [hs]
          have HSL := Lib.hid hs
          clear hall hlt hk hs
          by_cases hov : (S : Int) - (s : Int) < n
          · have e : pushA R.abs ((A.length : Nat) : Int) n = (R.abs, 53) := by
              unfold pushA
              rw [if_neg (by rw [HI.out]; simp), if_neg (show ¬ n < 1 by omega), abs_at HTH.out rfl, if_pos (by rw [HSL.out]; show (R.S : Int) - _ < n; rw [HSS.out]; exact hov)]
            have HE := Lib.hid e
            clear e
            have hd : decide ((S : Int) - (s : Int) < n) = true := decide_eq_true hov
            go_wp2_with fail
            go_ret
            rw [HE.out]
            exact RO.same HRS.out (Fr.refl _ _)
          · obtain ⟨nn, rfl⟩ := Int.eq_ofNat_of_zero_le (show 0 ≤ n by omega)
            have e : pushA R.abs ((A.length : Nat) : Int) (nn : Int) = ({ R.abs with ths := R.abs.ths.set A.length (t.ls ++ [List.replicate nn 0]) }, 0) := by
              unfold pushA
              rw [if_neg (by rw [HI.out]; simp), if_neg (show ¬ (nn : Int) < 1 by omega), abs_at HTH.out rfl, if_neg (by rw [HSL.out]; show ¬ (R.S : Int) - _ < _; rw [HSS.out]; exact hov)]
              simp
            have HE := Lib.hid e
            clear e
            have hd : decide ((S : Int) - (s : Int) < (nn : Int)) = false := decide_eq_false hov
            have HN1 : Hid (1 ≤ nn ∧ s + nn ≤ S) := ⟨by omega, by omega⟩
            obtain ⟨i2, hi2, hz2, hs2, hb2⟩ := info_parts int_info
            obtain ⟨i3, hi3, hz3, hs3, hb3⟩ := info_parts ints_info
            have hm1 : ∀ W : World, (Instr.makeSlice 29 (.int .i64 (nn : Int)) (.int .i64 (nn : Int))).run Tryz.prog W = .ok (.slice (some ⟨W.heap.size, 0, none⟩) nn nn) (W.alloc (.cells (Array.replicate nn (.int .i64 0)) 3)) := fun W => by
              have h := run_make_rowN (P := Tryz.prog) 29 3 i2 _ Tryz.underlying29 hi2 hz2 .i64 .i64 nn nn (Nat.le_refl _) (by rw [hb2]; omega) (by omega) W
              rw [h, hs2, Nat.mul_one]
              rw [show (Value.int .i64 0).cells = #[.int .i64 0] from rfl, made_one]
            clear hi2 hz2 hs2 hb2
            have HLW : Hid (∀ {W : World}, Fr [] w W → Lst W b0 29 1 (.slice AA m cp) m (t.fs.map frV)) := fun {W} hf => by
              have k := HTL.out.fr hf (by simp)
              rw [HV.out, HMM.out] at k
              exact k
            have HGR : Hid (Fr ((Value.slice AA m cp).ownBlock.toList) w w) := Fr.refl _ _
            have HOF : Hid (∀ {W : World}, Fr ((Value.slice AA m cp).ownBlock.toList) w W → W.cell? ⟨g, 1, none⟩ = some (.slice (some ⟨R.gT, 0, none⟩) T T) ∧ W.cell? ⟨R.gT, A.length, none⟩ = some (.slice AA m cp) ∧ W.frozen? ⟨R.gT, A.length, none⟩ = false) := fun {W} hf => by
              have k6 := HR.out.kinds.2.2.2.2.2 t HT.out
              have n1 : g ∉ (Value.slice AA m cp).ownBlock.toList := fun hx => (k6 g (by rw [HV.out, HMM.out]; simpa using hx)).1 rfl
              have n2 : R.gT ∉ (Value.slice AA m cp).ownBlock.toList := fun hx => (k6 R.gT (by rw [HV.out, HMM.out]; simpa using hx)).2.1 rfl
              have b1 := (HR.out.B.fr hf n1).cell 1
              have b2 := (HR.out.Th.fr hf n2).cell A.length
              have b3 := (HR.out.Th.fr hf n2).free A.length
              refine ⟨by rw [HTT.out] at b1; exact b1, ?_, b3⟩
              rw [b2, HTH.out]
              simp
              rw [HV.out, HMM.out]
            have lg := HR.out.B.lt
            have lt := HR.out.Th.lt
            have hb1 := HB0.out
            go_upto_region 13 with fail
            go_region_law
              ((refine step_append_lst _ (by rfl) _ _ _ (by rfl) b0 29 i3 _ 1 24 Tryz.underlying30 hi3 hz3 hs3 hb3 rfl (.slice AA m cp) m (t.fs.map frV) (by rfl) (HLW.out (by repeat (first | exact Fr.refl _ _ | refine Fr.drew ?_ | refine Fr.alloc ?_ _)))
                  ⟨w.heap.size + 1, 0, none⟩ 1 1 [.slice (some ⟨w.heap.size, 0, none⟩) nn nn] (by rfl) (by rfl) (World.news_of_block (cs := #[.slice (some ⟨w.heap.size, 0, none⟩) nn nn]) (t := 29) (fr := (0, 0)) (Bk.new_at _ _ _ _ (by simp))) (by simp [Value.oneCell'])
                  (by unfold maxLen; omega) (by omega) (by first | omega | (simp; omega)) ?_; intro v2 w1 hown1 hgrow hat; have hq := HOF.out (W := w1) (by refine Fr.grown ?_ hgrow (fun k hk => .inl (by simp [hk])); repeat (first | exact Fr.refl _ _ | refine Fr.drew ?_ | refine Fr.alloc ?_ _)); obtain ⟨hc1, hcz, hfz⟩ := hq; obtain ⟨A2, cap2, rfl, _, _⟩ := hown1.look))
            all_goals
              have HF1 : Hid (Fr ((Value.slice AA m cp).ownBlock.toList) w w1) := by
                refine Fr.grown ?_ hgrow (fun k hk => .inl (by simp [hk]))
                repeat (first | exact Fr.refl _ _ | refine Fr.drew ?_ | refine Fr.alloc ?_ _)
              have HNB : Hid (Bk w1 w.heap.size 3 (Array.replicate nn (.int .i64 0))) := by
                have hx : w.heap.size ∉ (Value.slice AA m cp).ownBlock.toList := fun hx => by
                  have := (HTL.out.lt w.heap.size (by rw [HV.out, HMM.out]; simpa using hx)).2
                  omega
                refine (hgrow.block w.heap.size (by simp; omega) (fun e => hx (by simp [← e]))).trans ?_
                first
                  | exact ((Bk.new w 3 (Array.replicate nn (.int .i64 0))).alloc _)
                  | exact ((Bk.new w.drew 3 (Array.replicate nn (.int .i64 0))).alloc _)
              have HAT : Hid ((Value.slice A2 (m + 1) cap2).ownBlock = t.v.ownBlock ∨ ∃ z, (Value.slice A2 (m + 1) cap2).ownBlock = some z ∧ w.heap.size ≤ z) := by
                rcases hat with e | e
                · exact .inl (by rw [HV.out, HMM.out]; exact e)
                · refine .inr ⟨_, e, ?_⟩
                  simp
                  omega
              have HOW : Hid (Lst w1 b0 29 1 (.slice A2 (m + 1) cap2) (m + 1) (t.fs.map frV ++ [.slice (some ⟨w.heap.size, 0, none⟩) nn nn])) := hown1
              clear hgrow hat hown1
              go_wp2_with fail
              go_ret
              rw [HE.out]
              have key := HR.out.pushed (w1 := w1) (v' := .slice A2 (m + 1) cap2) (nb := w.heap.size) (n := nn) HB0.out HTH.out (by
                have := HF1.out
                unfold Thr.fb
                rw [HV.out, HMM.out]
                exact this) (by rw [HMM.out]; exact HOW.out) HAT.out HNB.out (Nat.le_refl _) HN1.out.1 (by rw [HSL.out, HSS.out]; exact HN1.out.2)
              obtain ⟨_, F', k1, k2, k3⟩ := key
              exact ⟨rfl, F', by first | exact k1 | exact k1.nil ((Fr.refl [] _).drew), by first | exact k2 | exact k2.drew, k3⟩
end Go.Proofs.YtdcppdgnekhcgaaGreatDoor
