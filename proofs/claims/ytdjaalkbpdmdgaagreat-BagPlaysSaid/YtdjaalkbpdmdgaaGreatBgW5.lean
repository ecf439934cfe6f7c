/-
  Bag, the document's table of words by number: Keys.
-/
import Derived.Test.YtdjaalkbpdmdgaaGreatBgP2
namespace Go.Proofs.YtdjaalkbpdmdgaaGreat
open Go.RowKit
set_option linter.unusedVariables false

def keysL (l : List PN) : List Int := l.map (·.1)
/-- Where the least of those that are not listed yet (the first j of l are) stands among the first i of r. -/
def Least (l r : List PN) (j i : Nat) (at_ : Int) : Prop :=
  (at_ = -1 ∧ ∀ p ∈ r.take i, p ∈ l.take j) ∨ ∃ (a : Nat) (q : PN), at_ = (a : Int) ∧ r[a]? = some q ∧ q ∉ l.take j ∧ ∀ p ∈ r.take i, p ∉ l.take j → q.1 ≤ p.1
theorem rise_out {l : List PN} (h : Rise l) {j : Nat} {p q : PN} (hj : 0 < j) (hjl : j ≤ l.length) (hp : p ∈ l) (hq : l[j - 1]? = some q) : p ∉ l.take j ↔ q.1 < p.1 := by
  unfold Rise at h
  rw [List.pairwise_iff_getElem] at h
  obtain ⟨q1, q2⟩ := List.getElem?_eq_some_iff.1 hq
  obtain ⟨i, hi⟩ := List.mem_iff_getElem?.1 hp
  obtain ⟨i1, i2⟩ := List.getElem?_eq_some_iff.1 hi
  constructor
  · intro hn
    have hge : j ≤ i := by
      by_cases e : j ≤ i
      · exact e
      · exact absurd (List.mem_of_getElem? (i := i) (by rw [List.getElem?_take, if_pos (by omega)]; exact hi)) hn
    have := h (j - 1) i q1 i1 (by omega)
    rw [q2, i2] at this
    exact this
  · intro hlt hm
    obtain ⟨i', hi'⟩ := List.mem_iff_getElem?.1 hm
    rw [List.getElem?_take] at hi'
    split at hi'
    · rename_i hij
      obtain ⟨a1, a2⟩ := List.getElem?_eq_some_iff.1 hi'
      by_cases e : i' = j - 1
      · subst e
        rw [q2] at a2
        rw [a2] at hlt
        omega
      · have := h i' (j - 1) a1 q1 (by omega)
        rw [a2, q2] at this
        omega
    · cases hi'
theorem least_end {l r : List PN} (h : Rl l r) {j : Nat} (hj : j < l.length) {at_ : Int} (hl : Least l r j r.length at_) : ∃ (a : Nat) (q : PN), at_ = (a : Int) ∧ r[a]? = some q ∧ l[j]? = some q := by
  have hlj : l[j]? = some l[j] := List.getElem?_eq_getElem hj
  have hr := h.rise
  unfold Rise at hr
  rw [List.pairwise_iff_getElem] at hr
  have hnot : l[j] ∉ l.take j := fun hm => by
    obtain ⟨i, hi⟩ := List.mem_iff_getElem?.1 hm
    rw [List.getElem?_take] at hi
    split at hi
    · rename_i hij
      obtain ⟨a1, a2⟩ := List.getElem?_eq_some_iff.1 hi
      have := hr i j a1 hj hij
      rw [a2] at this
      omega
    · cases hi
  have hmr : l[j] ∈ r := (h.mem _).1 (List.mem_of_getElem? hlj)
  rcases hl with ⟨_, h1⟩ | ⟨a, q, h1, h2, h3, h4⟩
  · rw [List.take_of_length_le (Nat.le_refl _)] at h1
    exact absurd (h1 _ hmr) hnot
  · refine ⟨a, q, h1, h2, ?_⟩
    rw [List.take_of_length_le (Nat.le_refl _)] at h4
    have h5 := h4 _ hmr hnot
    obtain ⟨i, hi⟩ := List.mem_iff_getElem?.1 ((h.mem q).2 (List.mem_of_getElem? h2))
    obtain ⟨a1, a2⟩ := List.getElem?_eq_some_iff.1 hi
    have hge : j ≤ i := by
      by_cases e : j ≤ i
      · exact e
      · exact absurd (List.mem_of_getElem? (i := i) (by rw [List.getElem?_take, if_pos (by omega)]; exact hi)) h3
    by_cases e : i = j
    · rw [← e]; exact hi
    · have := hr j i hj a1 (by omega)
      rw [a2] at this
      omega

set_option maxRecDepth 100000 in
set_option maxHeartbeats 3200000 in
theorem wkeys_any (b0 g : Nat) (kv vv : Value) (l r : List PN) (w : World) (h : RwN b0 w g kv vv r) (hR : Rl l r) (hl : r.length ≤ 1000000) :
    Calls Tryz.prog 93 #[.pointer (some ⟨g, 0, none⟩)] w fun e w' => ∃ v, e = .returned v ∧ Lst w' w.heap.size 3 1 v (keysL l).length (iV (keysL l)) ∧ Fr [] w w' := by
  have H0 := Lib.hid h
  have HR := Lib.hid hR
  obtain ⟨n, hn⟩ : ∃ n, r.length = n := ⟨_, rfl⟩
  have HN : Hid (r.length = n ∧ l.length = n ∧ (keysL l).length = n) := ⟨hn, by rw [hR.len, hn], by unfold keysL; rw [List.length_map, hR.len, hn]⟩
  rw [hn] at hl
  obtain ⟨A, cp, hv, _, _⟩ := h.K.look
  rw [rkN_len, hn] at hv
  have HCL : Hid (∀ Z, Fr [] w Z → Z.cell? ⟨g, 0, none⟩ = some (.slice A n cp) ∧ Lst Z b0 3 1 (.slice A n cp) n (rkN r)) := fun Z hf => by
    have hz := H0.out.fr hf (fun x _ => by simp)
    have hk := hz.K
    rw [rkN_len, HN.out.1, hv] at hk
    exact ⟨by rw [← hv]; exact hz.B.cell 0, hk⟩
  obtain ⟨c0, _⟩ := HCL.out w (Fr.refl _ _)
  obtain ⟨i2', hi2, hz2, hs2, hb2⟩ := info_parts' int_info
  clear h hn hv hR
  go_enter Tryz.func93, Tryz.ntmps93
  go_wp2_with fail
  go_loopw [3] (fun v wr => ∃ j : Nat, j ≤ n ∧ Hid (∃ Av cv, v = .slice Av j cv ∧ Lst wr w.heap.size 3 1 v j (iV ((keysL l).take j)) ∧ Fr [] w wr)) (fun v _ => n - (match v with | .slice _ j _ => j | _ => 0))
  case atStart => exact ⟨0, by omega, none, 0, rfl, Lst.nil _ _ _ _, Fr.refl _ _⟩
  case round =>
    obtain ⟨j, hj, hx⟩ := hrel
    obtain ⟨Av, cv, rfl, hL, hW⟩ := hx.out
    have HL := Lib.hid hL
    have HW := Lib.hid hW
    clear hx hL hW c0
    obtain ⟨c0, hK⟩ := HCL.out wr HW.out
    by_cases hlt : j < n
    · have d1 : decide ((j : Int) < (n : Int)) = true := decide_eq_true (by omega)
      have hLS : Hid (Least l r j 0 (-1)) := .inl ⟨rfl, fun p hp => by simp at hp⟩
      go_wp2_with fail
      obtain ⟨wo, rfl⟩ : ∃ wo, wo = wr := ⟨_, rfl⟩
      go_loopw [4, 5] (fun a i wr2 => ∃ (x : Nat) (at_ : Int), x ≤ n ∧ i = .int .i64 x ∧ a = .int .i64 at_ ∧ Hid (Fr [] wo wr2 ∧ Least l r j x at_)) (fun _ i _ => n - (intOf i).toNat)
      case atStart => exact ⟨0, -1, by omega, rfl, rfl, Fr.refl _ _, hLS.out⟩
      case round =>
        obtain ⟨i, at_, hi, rfl, rfl, hx⟩ := hrel
        have HW2 := Lib.hid hx.1
        have HLE := Lib.hid hx.2
        clear hx
        have HW3 := Lib.hid (HW.out.trans HW2.out (by simp))
        obtain ⟨c0, hK⟩ := HCL.out wr HW3.out
        have HL3 := Lib.hid (HL.out.fr HW2.out (by simp))
        by_cases hlti : i < n
        · obtain ⟨p, hp⟩ : ∃ p, r[i]? = some p := ⟨_, List.getElem?_eq_getElem (by have := HN.out.1; omega)⟩
          have HPI := Lib.hid hp
          have htk : r.take (i + 1) = r.take i ++ [p] := by
            obtain ⟨q1, q2⟩ := List.getElem?_eq_some_iff.1 hp
            rw [List.take_succ_eq_append_getElem q1, q2]
          obtain ⟨gl, off, cap, hq, _, _, _, _, _, _, hcl⟩ := hK.form (by omega)
          injection hq with q1 _ q3
          subst q1 q3
          have cx := hcl i _ (rkN_at hp)
          have hk1 : kN p.1 = .int .i64 p.1 := rfl
          rw [hk1] at cx
          obtain ⟨pk, HPX⟩ : ∃ pk, p.1 = pk := ⟨_, rfl⟩
          rw [HPX] at cx
          have i0 : (0 : Int) ≤ (i : Int) := by omega
          have i1 : (i : Int) < (n : Int) := by omega
          have i2 : decide ((i : Int) < (n : Int)) = true := decide_eq_true i1
          clear hp hK hk1
          by_cases hj0 : j = 0
          · have hout : p ∉ l.take j := by rw [hj0]; simp
            have d0 : (((j : Nat) : Int) == 0) = true := by rw [hj0]; rfl
            clear hj0
            rcases HLE.out with ⟨rfl, hle⟩ | ⟨a, q, rfl, hqa, hqn, hle⟩
            · have HNEW : Hid (Least l r j (i + 1) (i : Int)) := by
                refine .inr ⟨i, p, rfl, HPI.out, hout, fun p' hp' hn' => ?_⟩
                rw [htk] at hp'
                rcases List.mem_append.1 hp' with e | e
                · exact absurd (hle p' e) hn'
                · obtain rfl : p' = p := by simpa using e
                  exact Int.le_refl _
              clear hout htk hcl hle HPX
              go_upto_region 7 with fail
              go_quiet (fail)
              go_wp2_with fail
              go_roundw
              case rel => exact ⟨i + 1, i, by omega, by go_num, rfl, HW2.out.drewN _, HNEW.out⟩
              case measure => simp [intOf]; omega
            · have cq := hcl a _ (rkN_at hqa)
              have hal : a < n := by have := (List.getElem?_eq_some_iff.1 hqa).1; have := HN.out.1; omega
              have a0 : (0 : Int) ≤ (a : Int) := by omega
              have a1 : (a : Int) < (n : Int) := by omega
              have a2 : decide ((a : Int) < 0) = false := decide_eq_false (by omega)
              have hq1 : kN q.1 = .int .i64 q.1 := rfl
              rw [hq1] at cq
              obtain ⟨qk, hqk⟩ : ∃ qk, q.1 = qk := ⟨_, rfl⟩
              rw [hqk] at cq
              by_cases h2 : pk < qk
              · have d2 : decide (pk < qk) = true := decide_eq_true h2
                have HNEW : Hid (Least l r j (i + 1) (i : Int)) := by
                  refine .inr ⟨i, p, rfl, HPI.out, hout, fun p' hp' hn' => ?_⟩
                  rw [htk] at hp'
                  rcases List.mem_append.1 hp' with e | e
                  · have := hle p' e hn'
                    omega
                  · obtain rfl : p' = p := by simpa using e
                    exact Int.le_refl _
                clear hout htk hcl hle hqa hqn hqk hq1 HPX
                go_upto_region 7 with fail
                go_quiet (fail)
                go_wp2_with fail
                go_roundw
                case rel => exact ⟨i + 1, i, by omega, by go_num, rfl, HW2.out.drewN _, HNEW.out⟩
                case measure => simp [intOf]; omega
              · have d2 : decide (pk < qk) = false := decide_eq_false h2
                have HNEW : Hid (Least l r j (i + 1) (a : Int)) := by
                  refine .inr ⟨a, q, rfl, hqa, hqn, fun p' hp' hn' => ?_⟩
                  rw [htk] at hp'
                  rcases List.mem_append.1 hp' with e | e
                  · exact hle p' e hn'
                  · obtain rfl : p' = p := by simpa using e
                    omega
                clear hout htk hcl hle hqa hqn hqk hq1 HPX
                go_upto_region 7 with fail
                go_quiet (fail)
                go_wp2_with fail
                go_roundw
                case rel => exact ⟨i + 1, a, by omega, by go_num, rfl, HW2.out.drewN _, HNEW.out⟩
                case measure => simp [intOf]; omega
          · have d0 : (((j : Nat) : Int) == 0) = false := by simpa using (show ¬ ((j : Nat) : Int) = 0 by omega)
            obtain ⟨lp, hlp⟩ : ∃ lp, l[j - 1]? = some lp := ⟨_, List.getElem?_eq_getElem (by have := HN.out.2.1; omega)⟩
            obtain ⟨gb, ob, cb, hvq, _, _, _, _, _, _, hco⟩ := HL3.out.form (by omega)
            injection hvq with r1 _ r3
            subst r1 r3
            have cl := hco (j - 1) (.int .i64 lp.1) (iV_at (by rw [List.getElem?_take, if_pos (by omega)]; unfold keysL; rw [List.getElem?_map, hlp]; rfl))
            obtain ⟨lk, hlk⟩ : ∃ lk, lp.1 = lk := ⟨_, rfl⟩
            rw [hlk] at cl
            have hro := rise_out HR.out.rise (j := j) (by omega) (by have := HN.out.2.1; omega) ((HR.out.mem p).2 (List.mem_of_getElem? HPI.out)) hlp
            rw [hlk, HPX] at hro
            obtain ⟨jm, hjm⟩ : ∃ jm, j - 1 = jm := ⟨_, rfl⟩
            rw [hjm] at cl
            have w1 : IntKind.i64.wrap (((j : Nat) : Int) - 1) = (jm : Int) := by rw [show ((j : Nat) : Int) - 1 = (jm : Int) by omega]; exact IntWalk.i64_in _ (by omega)
            have j0 : (0 : Int) ≤ (jm : Int) := by omega
            have j1 : (jm : Int) < (j : Int) := by omega
            clear hco hlp hlk hjm
            by_cases hgt : lk < pk
            · have d3 : decide (lk < pk) = true := decide_eq_true hgt
              have hout : p ∉ l.take j := hro.2 hgt
              clear hro
              rcases HLE.out with ⟨rfl, hle⟩ | ⟨a, q, rfl, hqa, hqn, hle⟩
              · have HNEW : Hid (Least l r j (i + 1) (i : Int)) := by
                  refine .inr ⟨i, p, rfl, HPI.out, hout, fun p' hp' hn' => ?_⟩
                  rw [htk] at hp'
                  rcases List.mem_append.1 hp' with e | e
                  · exact absurd (hle p' e) hn'
                  · obtain rfl : p' = p := by simpa using e
                    exact Int.le_refl _
                clear hout htk hcl hle HPX
                go_upto_region 7 with fail
                go_quiet (fail)
                go_wp2_with fail
                go_roundw
                case rel => exact ⟨i + 1, i, by omega, by go_num, rfl, HW2.out.drewN _, HNEW.out⟩
                case measure => simp [intOf]; omega
              · have cq := hcl a _ (rkN_at hqa)
                have hal : a < n := by have := (List.getElem?_eq_some_iff.1 hqa).1; have := HN.out.1; omega
                have a0 : (0 : Int) ≤ (a : Int) := by omega
                have a1 : (a : Int) < (n : Int) := by omega
                have a2 : decide ((a : Int) < 0) = false := decide_eq_false (by omega)
                have hq1 : kN q.1 = .int .i64 q.1 := rfl
                rw [hq1] at cq
                obtain ⟨qk, hqk⟩ : ∃ qk, q.1 = qk := ⟨_, rfl⟩
                rw [hqk] at cq
                by_cases h2 : pk < qk
                · have d2 : decide (pk < qk) = true := decide_eq_true h2
                  have HNEW : Hid (Least l r j (i + 1) (i : Int)) := by
                    refine .inr ⟨i, p, rfl, HPI.out, hout, fun p' hp' hn' => ?_⟩
                    rw [htk] at hp'
                    rcases List.mem_append.1 hp' with e | e
                    · have := hle p' e hn'
                      omega
                    · obtain rfl : p' = p := by simpa using e
                      exact Int.le_refl _
                  clear hout htk hcl hle hqa hqn hqk hq1 HPX
                  go_upto_region 7 with fail
                  go_quiet (fail)
                  go_wp2_with fail
                  go_roundw
                  case rel => exact ⟨i + 1, i, by omega, by go_num, rfl, HW2.out.drewN _, HNEW.out⟩
                  case measure => simp [intOf]; omega
                · have d2 : decide (pk < qk) = false := decide_eq_false h2
                  have HNEW : Hid (Least l r j (i + 1) (a : Int)) := by
                    refine .inr ⟨a, q, rfl, hqa, hqn, fun p' hp' hn' => ?_⟩
                    rw [htk] at hp'
                    rcases List.mem_append.1 hp' with e | e
                    · exact hle p' e hn'
                    · obtain rfl : p' = p := by simpa using e
                      omega
                  clear hout htk hcl hle hqa hqn hqk hq1 HPX
                  go_upto_region 7 with fail
                  go_quiet (fail)
                  go_wp2_with fail
                  go_roundw
                  case rel => exact ⟨i + 1, a, by omega, by go_num, rfl, HW2.out.drewN _, HNEW.out⟩
                  case measure => simp [intOf]; omega
            · have d3 : decide (lk < pk) = false := decide_eq_false hgt
              have HNEW : Hid (Least l r j (i + 1) at_) := by
                have hin : p ∈ l.take j := by
                  by_cases e : p ∈ l.take j
                  · exact e
                  · exact absurd (hro.1 e) hgt
                rcases HLE.out with ⟨e, hle⟩ | ⟨a, q, e, hqa, hqn, hle⟩
                · refine .inl ⟨e, fun p' hp' => ?_⟩
                  rw [htk] at hp'
                  rcases List.mem_append.1 hp' with e | e
                  · exact hle p' e
                  · obtain rfl : p' = p := by simpa using e
                    exact hin
                · refine .inr ⟨a, q, e, hqa, hqn, fun p' hp' hn' => ?_⟩
                  rw [htk] at hp'
                  rcases List.mem_append.1 hp' with e | e
                  · exact hle p' e hn'
                  · obtain rfl : p' = p := by simpa using e
                    exact absurd hin hn'
              clear hro htk hcl HPX
              go_upto_region 7 with fail
              go_quiet (fail)
              go_wp2_with fail
              go_roundw
              case rel => exact ⟨i + 1, at_, by omega, by go_num, rfl, HW2.out.drewN _, HNEW.out⟩
              case measure => simp [intOf]; omega
        · obtain rfl : n = i := by omega
          have i2 : decide ((n : Int) < (n : Int)) = false := decide_eq_false (by omega)
          have hle := HLE.out
          rw [← HN.out.1] at hle
          obtain ⟨a, q, rfl, hqa, hlj⟩ := least_end HR.out (by have := HN.out.2.1; omega) hle
          have hal : a < n := by have := (List.getElem?_eq_some_iff.1 hqa).1; have := HN.out.1; omega
          obtain ⟨gl, off, cap, hq, _, _, _, _, _, _, hcl⟩ := hK.form (by omega)
          injection hq with q1 _ q3
          subst q1 q3
          have cq := hcl a _ (rkN_at hqa)
          have hq1 : kN q.1 = .int .i64 q.1 := rfl
          rw [hq1] at cq
          have HTK : Hid ((keysL l).take (j + 1) = (keysL l).take j ++ [q.1]) := by
            have h1 : (keysL l)[j]? = some q.1 := by unfold keysL; rw [List.getElem?_map, hlj]; rfl
            obtain ⟨h1, h2⟩ := List.getElem?_eq_some_iff.1 h1
            show _ = _
            rw [List.take_succ_eq_append_getElem h1, h2]
          obtain ⟨qk, hqk⟩ : ∃ qk, q.1 = qk := ⟨_, rfl⟩
          rw [hqk] at cq HTK
          have a0 : (0 : Int) ≤ (a : Int) := by omega
          have a1 : (a : Int) < (n : Int) := by omega
          have hsz := HW3.out.size
          clear hle hqa hlj hcl hq1 hqk hK
          go_wp2_with (at_builtin; refine wpList_append_lst _ rfl (.tmp 64) (.tmp 72) _ rfl w.heap.size 3 i2' _ 1 8 Tryz.underlying68 hi2 hz2 hs2 hb2 rfl _ j (iV ((keysL l).take j)) rfl (HL3.out.alloc _) ⟨wr.heap.size, 0, none⟩ 1 1 [.int .i64 qk] rfl rfl (World.news_of_block (heap_alloc_new _ _)) ?c2 ?c3 ?c4 ?c5 ?c6)
          case c2 => simp [Value.oneCell']
          case c3 => unfold maxLen; omega
          case c4 => omega
          case c5 => first | omega | (simp; omega)
          case c6 =>
            intro v2 w2 hown hgrow hat
            obtain ⟨A9, c9, rfl, _, _⟩ := hown.look
            have HX : Hid (∃ Av cv, Value.slice A9 (j + 1) c9 = .slice Av (j + 1) cv ∧ Lst w2 w.heap.size 3 1 (.slice A9 (j + 1) c9) (j + 1) (iV ((keysL l).take (j + 1))) ∧ Fr [] w w2) := by
              refine ⟨A9, c9, rfl, ?_, (HW3.out.alloc _).grown hgrow (fun j hj => .inr (HL3.out.lt j hj).1)⟩
              rw [HTK.out]
              unfold iV at hown ⊢
              rw [List.map_append]
              exact hown
            clear hown hgrow hat
            go_wp2
            go_roundw
            case rel => exact ⟨j + 1, by omega, HX.out⟩
            case measure => simp; omega
    · obtain rfl : n = j := by omega
      have hall : (keysL l).take n = keysL l := List.take_of_length_le (by have := HN.out.2.2; omega)
      rw [hall] at HL
      have d1 : decide ((n : Int) < (n : Int)) = false := decide_eq_false (by omega)
      have HE : Hid (∃ v, Ending.returned (Value.slice Av n cv) = .returned v ∧ Lst wr w.heap.size 3 1 v (keysL l).length (iV (keysL l)) ∧ Fr [] w wr) := ⟨_, rfl, by rw [HN.out.2.2]; exact HL.out, HW.out⟩
      clear hall hK
      go_wp2_with fail
      go_ret
      exact HE.out
end Go.Proofs.YtdjaalkbpdmdgaaGreat
