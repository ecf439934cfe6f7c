/-
  Bag, the document's table of words by number: Near.
-/
import Derived.Test.YtdjaalkbpdmdgaaGreatBgW3
namespace Go.Proofs.YtdjaalkbpdmdgaaGreat
open Go.RowKit
set_option linter.unusedVariables false

def bestK (k : Int) (s : Option PN) (p : PN) : Option PN := match s with
  | none => if p.1 ≤ k then some p else none
  | some q => if p.1 ≤ k ∧ q.1 < p.1 then some p else some q
def nearR (r : List PN) (k : Int) : Option PN := r.foldl (bestK k) none
theorem nearR_succ {r : List PN} {k : Int} {i : Nat} {p : PN} (h : r[i]? = some p) : nearR (r.take (i + 1)) k = bestK k (nearR (r.take i) k) p := by
  obtain ⟨h1, h2⟩ := List.getElem?_eq_some_iff.1 h
  unfold nearR
  rw [List.take_succ_eq_append_getElem h1, h2, List.foldl_append]
  rfl
/-- Where the best stands among the first i. -/
def AtN (r : List PN) (k : Int) (i : Nat) (at_ : Int) : Prop := (at_ = -1 ∧ nearR (r.take i) k = none) ∨ ∃ (a : Nat) (q : PN), at_ = (a : Int) ∧ r[a]? = some q ∧ nearR (r.take i) k = some q

set_option maxRecDepth 100000 in
set_option maxHeartbeats 1600000 in
theorem wnear_any (b0 g : Nat) (kv vv : Value) (r : List PN) (k : Int) (w : World) (h : RwN b0 w g kv vv r) (hl : r.length ≤ 1000000) :
    Calls Tryz.prog 63 #[.pointer (some ⟨g, 0, none⟩), .int .i64 k] w (NearN (nearR r k) w) := by
  have H0 := Lib.hid h
  obtain ⟨n, hn⟩ : ∃ n, r.length = n := ⟨_, rfl⟩
  have HN := Lib.hid hn
  rw [hn] at hl
  obtain ⟨A, cp, hv, _, _⟩ := h.K.look
  obtain ⟨A2, cp2, hv2, _, _⟩ := h.V.look
  rw [rkN_len, hn] at hv
  rw [rvN_len, hn] at hv2
  have HCL : Hid (∀ Z, Fr [] w Z → Z.cell? ⟨g, 0, none⟩ = some (.slice A n cp) ∧ Z.cell? ⟨g, 1, none⟩ = some (.slice A2 n cp2) ∧ Lst Z b0 3 1 (.slice A n cp) n (rkN r) ∧ Lst Z b0 29 1 (.slice A2 n cp2) n (rvN r)) := fun Z hf => by
    have hz := H0.out.fr hf (fun x _ => by simp)
    have hk := hz.K
    have hV := hz.V
    rw [rkN_len, HN.out, hv] at hk
    rw [rvN_len, HN.out, hv2] at hV
    exact ⟨by rw [← hv]; exact hz.B.cell 0, by rw [← hv2]; exact hz.B.cell 1, hk, hV⟩
  obtain ⟨c0, c1, _, _⟩ := HCL.out w (Fr.refl _ _)
  clear h hn hv hv2
  go_enter Tryz.func63, Tryz.ntmps63
  go_wp2_with fail
  go_loopw [7, 8] (fun a j wr => ∃ (i : Nat) (at_ : Int), i ≤ n ∧ j = .int .i64 i ∧ a = .int .i64 at_ ∧ Hid (Fr [] w wr ∧ AtN r k i at_)) (fun _ j _ => n - (intOf j).toNat)
  case atStart => exact ⟨0, -1, by omega, rfl, rfl, Fr.refl _ _, .inl ⟨rfl, rfl⟩⟩
  case round =>
    obtain ⟨i, at_, hi, rfl, rfl, hx⟩ := hrel
    have HW := Lib.hid hx.out.1
    have HAT := Lib.hid hx.out.2
    clear hx c0 c1
    obtain ⟨c0, c1, hK, hV⟩ := HCL.out wr HW.out
    by_cases hlt : i < n
    · obtain ⟨p, hp⟩ : ∃ p, r[i]? = some p := ⟨_, List.getElem?_eq_getElem (by have := HN.out; omega)⟩
      have hsu := nearR_succ (k := k) hp
      obtain ⟨gl, off, cap, hq, _, _, _, _, _, _, hcl⟩ := hK.form (by omega)
      injection hq with q1 _ q3
      subst q1 q3
      have cx := hcl i _ (rkN_at hp)
      have i0 : (0 : Int) ≤ (i : Int) := by omega
      have i1 : (i : Int) < (n : Int) := by omega
      have i2 : decide ((i : Int) < (n : Int)) = true := decide_eq_true i1
      have HCN := Lib.hid hcl
      have HPI := Lib.hid hp
      obtain ⟨pk, pv⟩ := p
      unfold kN at cx
      by_cases h1 : pk ≤ k
      · have d1 : decide (pk ≤ k) = true := decide_eq_true h1
        rcases HAT.out with ⟨rfl, ha⟩ | ⟨a, q, rfl, hqa, ha⟩
        · have hnx : nearR (r.take (i + 1)) k = some (pk, pv) := by rw [hsu, ha]; unfold bestK; rw [if_pos h1]
          have HX : Hid (AtN r k (i + 1) (i : Int)) := .inr ⟨i, _, rfl, HPI.out, hnx⟩
          clear hp hcl hsu hnx ha hV hK
          go_upto_region 5 with fail
          go_quiet (fail)
          go_wp2_with fail
          go_roundw
          case rel => exact ⟨i + 1, i, by omega, by go_num, rfl, HW.out.drewN _, HX.out⟩
          case measure => simp [intOf]; omega
        · have cq := hcl a _ (rkN_at hqa)
          have hal : a < n := by have := (List.getElem?_eq_some_iff.1 hqa).1; have := HN.out; omega
          have a0 : (0 : Int) ≤ (a : Int) := by omega
          have a1 : (a : Int) < (n : Int) := by omega
          have a2 : decide ((a : Int) < 0) = false := decide_eq_false (by omega)
          have HQA := Lib.hid hqa
          obtain ⟨qk, qv⟩ := q
          unfold kN at cq
          by_cases h2 : qk < pk
          · have d2 : decide (qk < pk) = true := decide_eq_true h2
            have hnx : nearR (r.take (i + 1)) k = some (pk, pv) := by rw [hsu, ha]; unfold bestK; simp only; rw [if_pos ⟨h1, h2⟩]
            have HX : Hid (AtN r k (i + 1) (i : Int)) := .inr ⟨i, _, rfl, HPI.out, hnx⟩
            clear hp hcl hsu hnx ha hqa hV hK
            go_upto_region 5 with fail
            go_quiet (fail)
            go_wp2_with fail
            go_roundw
            case rel => exact ⟨i + 1, i, by omega, by go_num, rfl, HW.out.drewN _, HX.out⟩
            case measure => simp [intOf]; omega
          · have d2 : decide (qk < pk) = false := decide_eq_false h2
            have hnx : nearR (r.take (i + 1)) k = some (qk, qv) := by rw [hsu, ha]; unfold bestK; simp only; rw [if_neg (by omega)]
            have HX : Hid (AtN r k (i + 1) (a : Int)) := .inr ⟨a, _, rfl, HQA.out, hnx⟩
            clear hp hcl hsu hnx ha hqa hV hK
            go_upto_region 5 with fail
            go_quiet (fail)
            go_wp2_with fail
            go_roundw
            case rel => exact ⟨i + 1, a, by omega, by go_num, rfl, HW.out.drewN _, HX.out⟩
            case measure => simp [intOf]; omega
      · have d1 : decide (pk ≤ k) = false := decide_eq_false h1
        have hnx : nearR (r.take (i + 1)) k = nearR (r.take i) k := by
          rw [hsu]
          unfold bestK
          cases nearR (r.take i) k with
          | none => simp only; rw [if_neg h1]
          | some q => simp only; rw [if_neg (by omega)]
        have HX : Hid (AtN r k (i + 1) at_) := by
          unfold AtN
          rw [hnx]
          exact HAT.out
        clear hp hcl hsu hnx hV hK
        go_upto_region 5 with fail
        go_quiet (fail)
        go_wp2_with fail
        go_roundw
        case rel => exact ⟨i + 1, at_, by omega, by go_num, rfl, HW.out.drewN _, HX.out⟩
        case measure => simp [intOf]; omega
    · obtain rfl : n = i := by omega
      have i2 : decide ((n : Int) < (n : Int)) = false := decide_eq_false (by omega)
      have hall : r.take n = r := List.take_of_length_le (by have := HN.out; omega)
      rcases HAT.out with ⟨rfl, ha⟩ | ⟨a, q, rfl, hqa, ha⟩
      · rw [hall] at ha
        have HE : Hid (NearN (nearR r k) w (.returned (.tuple #[.int .i64 0, .int .u64 0, .bool false])) wr) := by
          rw [ha]
          exact ⟨rfl, HW.out⟩
        clear ha hall hV hK
        go_wp2_with fail
        go_ret3
        exact HE.out
      · rw [hall] at ha
        have hal : a < n := by have := (List.getElem?_eq_some_iff.1 hqa).1; have := HN.out; omega
        obtain ⟨gl, off, cap, hq, _, _, _, _, _, _, hcl⟩ := hK.form (by omega)
        injection hq with q1 _ q3
        subst q1 q3
        obtain ⟨gl2, off2, cap2, hq2, _, _, _, _, _, _, hcl2⟩ := hV.form (by omega)
        injection hq2 with s1 _ s3
        subst s1 s3
        have cq := hcl a _ (rkN_at hqa)
        have cv := hcl2 a _ (rvN_at hqa)
        obtain ⟨qk, qv⟩ := q
        unfold kN at cq
        unfold vN at cv
        have HE : Hid (∀ Z, Fr [] w Z → NearN (nearR r k) w (.returned (.tuple #[.int .i64 qk, .int .u64 qv, .bool true])) Z) := fun Z hf => by
          rw [ha]
          exact ⟨rfl, hf⟩
        have a0 : (0 : Int) ≤ (a : Int) := by omega
        have a1 : (a : Int) < (n : Int) := by omega
        have a2 : decide ((a : Int) < 0) = false := decide_eq_false (by omega)
        clear ha hall hV hK hcl hcl2 hqa
        go_upto_region 9 with fail
        go_quiet (fail)
        go_wp2_with fail
        go_ret3
        exact HE.out _ (HW.out.drewN _)
end Go.Proofs.YtdjaalkbpdmdgaaGreat
