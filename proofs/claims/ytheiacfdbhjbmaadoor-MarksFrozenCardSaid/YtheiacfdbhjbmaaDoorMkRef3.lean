/-
  Marks: the document's slide: Slide, To, Back.
-/
import Derived.Test.YtheiacfdbhjbmaaDoorMkRef2
namespace Go.Proofs.YtheiacfdbhjbmaaDoor
open Go.RowKit Mk
set_option linter.unusedVariables false

/-- The marked places below n, in order. -/
def plcs (f : Nat → Bool) (n : Nat) : List Nat := (List.range n).filter f
theorem plcs_next (f : Nat → Bool) (n : Nat) : plcs f (n + 1) = plcs f n ++ if f n then [n] else [] := by
  unfold plcs
  rw [List.range_succ, List.filter_append]
  congr 1
  cases h : f n <;> simp [h]
theorem plcs_length (f : Nat → Bool) : ∀ n, (plcs f n).length = cnt f 0 n
  | 0 => rfl
  | n + 1 => by
    rw [plcs_next, List.length_append, plcs_length f n, cnt_add, Nat.zero_add]
    cases h : f n <;> simp [cnt, h]
theorem plcs_at (f : Nat → Bool) : ∀ n p, p < n → f p = true → (plcs f n)[cnt f 0 p]? = some p
  | n + 1, p, hp, hf => by
    rw [plcs_next]
    by_cases h : p < n
    · have := plcs_at f n p h hf
      rw [List.getElem?_append_left (List.getElem?_eq_some_iff.1 this).1]
      exact this
    · obtain rfl : p = n := by omega
      rw [hf, List.getElem?_append_right (by rw [plcs_length]; exact Nat.le_refl _), plcs_length, Nat.sub_self]
      rfl
theorem plcs_get (f : Nat → Bool) : ∀ n i p, (plcs f n)[i]? = some p → p < n ∧ f p = true ∧ cnt f 0 p = i
  | 0, i, p, h => by simp [plcs] at h
  | n + 1, i, p, h => by
    rw [plcs_next] at h
    by_cases hi : i < (plcs f n).length
    · rw [List.getElem?_append_left hi] at h
      obtain ⟨h1, h2, h3⟩ := plcs_get f n i p h
      exact ⟨by omega, h2, h3⟩
    · rw [List.getElem?_append_right (by omega)] at h
      cases hf : f n with
      | false => rw [hf] at h; simp at h
      | true =>
        rw [hf] at h
        have hi2 : i - (plcs f n).length = 0 := by
          rcases Nat.eq_zero_or_pos (i - (plcs f n).length) with e | e
          · exact e
          · rw [if_pos rfl, List.getElem?_eq_none (by simp; omega)] at h; cases h
        rw [hi2] at h
        simp at h
        subst h
        exact ⟨by omega, hf, by rw [plcs_length] at hi hi2; omega⟩
theorem plcs_none (f : Nat → Bool) {n : Nat} : ∀ m, n ≤ m → (∀ j, n ≤ j → f j = false) → plcs f m = plcs f n := by
  intro m hm hf
  induction m with
  | zero => have : n = 0 := by omega
            subst this; rfl
  | succ m ih =>
    by_cases h : n = m + 1
    · rw [h]
    · rw [plcs_next, hf m (by omega), ih (by omega)]
      simp

def plcV (f : Nat → Bool) (n : Nat) : List Value := (plcs f n).map fun p => .int .i64 (p : Nat)
theorem plcV_next (f : Nat → Bool) (n : Nat) : plcV f (n + 1) = plcV f n ++ if f n then [.int .i64 (n : Nat)] else [] := by
  unfold plcV
  rw [plcs_next, List.map_append]
  cases f n <;> simp
theorem plcV_at {f : Nat → Bool} {n i p : Nat} (h : (plcs f n)[i]? = some p) : (plcV f n)[i]? = some (.int .i64 (p : Nat)) := by
  unfold plcV
  rw [List.getElem?_map, h]
  rfl

/-- The document's slide. -/
structure RefS (w : World) (rs c : Nat) (lv : Value) (f : Nat → Bool) (n : Nat) : Prop where
  B : Bk w rs 93 #[.int .i64 c, lv]
  L : Lst w 0 3 1 lv (cnt f 0 n) (plcV f n)
  c1 : c ≤ 1048576
  n1 : n ≤ 1048576
theorem RefS.fr {w w' : World} {rs c : Nat} {lv : Value} {f : Nat → Bool} {n : Nat} {S : List Nat} (h : RefS w rs c lv f n) (hf : Fr S w w') (h1 : rs ∉ S) (h2 : ∀ k, lv.ownBlock = some k → k ∉ S) : RefS w' rs c lv f n :=
  ⟨h.B.fr hf h1, h.L.fr hf h2, h.c1, h.n1⟩

theorem rslide_refused (r rb size : Nat) (F : Nat → Bool) (a b c : Int) (w : World) (h : RefM w r rb size F) (hbad : ¬ (0 ≤ a ∧ b ≤ size ∧ a ≤ b ∧ 0 ≤ c ∧ c ≤ 1048576)) :
    Calls Tryd.prog 59 #[.pointer (some ⟨r, 0, none⟩), .int .i64 a, .int .i64 b, .int .i64 c] w fun e w' => e = .returned (.tuple #[.pointer none, .int .i64 41]) ∧ w = w' := by
  have c0 : w.cell? ⟨r, 0, none⟩ = some (.slice (some ⟨rb, 0, none⟩) size size) := h.B.cell 0
  have hm := h.most
  clear h
  go_enter Tryd.func59, Tryd.ntmps59
  go_upto_region 3 with fail
  all_goals first | (go_ret2; exact ⟨rfl, rfl⟩) | (exfalso; omega)

theorem cut_row (F : Nat → Bool) {a b k : Nat} (h1 : a ≤ k) (h2 : k < b) : cutF F a b k = F k := by
  unfold cutF
  rw [decide_eq_true h1, decide_eq_true h2]
  simp

def RSlideOk (F : Nat → Bool) (a b c : Nat) (w : World) (e : Ending) (w' : World) : Prop :=
  ∃ rs lv, e = .returned (.tuple #[.pointer (some ⟨rs, 0, none⟩), .int .i64 0]) ∧ RefS w' rs c lv (cutF F a b) b ∧ Fr [] w w' ∧ w.heap.size ≤ rs ∧ ∀ k, lv.ownBlock = some k → w.heap.size ≤ k

set_option maxHeartbeats 1600000 in
theorem rslide_ok (r rb size : Nat) (F : Nat → Bool) (a b c : Nat) (w : World) (h : RefM w r rb size F) (hab : a ≤ b) (hbs : b ≤ size) (hc : c ≤ 1048576) :
    Calls Tryd.prog 59 #[.pointer (some ⟨r, 0, none⟩), .int .i64 a, .int .i64 b, .int .i64 c] w (RSlideOk F a b c w) := by
  have c0 : w.cell? ⟨r, 0, none⟩ = some (.slice (some ⟨rb, 0, none⟩) size size) := h.B.cell 0
  have hm := h.most
  obtain ⟨i2, hi2, hz2, hs2, hb2⟩ := info_parts int_info
  have H := Lib.hid h
  clear h
  have d1 : decide ((a : Int) < 0) = false := by simp
  have d2 : decide ((size : Int) < (b : Int)) = false := by simp; omega
  have d2n : decide (size < b) = false := by simp; omega
  have d3 : decide ((b : Int) < (a : Int)) = false := by simp; omega
  have d3n : decide (b < a) = false := by simp; omega
  have d4 : decide ((c : Int) < 0) = false := by simp
  have d5 : decide ((1048576 : Int) < (c : Int)) = false := by simp; omega
  have d5n : decide (1048576 < c) = false := by simp; omega
  obtain ⟨G, hG⟩ : ∃ G, cutF F a b = G := ⟨_, rfl⟩
  have HG : Hid (∀ k, a ≤ k → k < b → G k = F k) := fun k h1 h2 => by rw [← hG]; exact cut_row F h1 h2
  have HG0 : Hid (cnt G 0 a = 0 ∧ plcV G a = []) := by
    have e : cnt G 0 a = 0 := cnt_zero (fun i hi => by rw [← hG]; unfold cutF; rw [decide_eq_false (by omega : ¬ a ≤ 0 + i)]; simp)
    refine ⟨e, ?_⟩
    have := plcs_length G a
    rw [e] at this
    unfold plcV
    rw [List.eq_nil_of_length_eq_zero this]
    rfl
  unfold RSlideOk
  rw [hG]
  clear hG
  go_enter Tryd.func59, Tryd.ntmps59
  go_upto_region 5 with fail
  clear c0 d1 d2 d2n d3 d3n d4 d5 d5n
  have HB0 : Hid (Bk (w.alloc (.cells #[.int .i64 c, .slice none 0 0] 93)) w.heap.size 93 #[.int .i64 c, .slice none 0 0]) := Bk.new _ _ _
  go_loopw [11] (fun i wr => ∃ (k : Nat), a ≤ k ∧ k ≤ b ∧ i = .int .i64 k ∧ Hid (∃ v, Bk wr w.heap.size 93 #[.int .i64 c, v] ∧ Lst wr w.heap.size 3 1 v (cnt G 0 k) (plcV G k) ∧ Fr [] w wr)) (fun i _ => b - (intOf i).toNat)
  case atStart => exact ⟨a, Nat.le_refl _, hab, rfl, .slice none 0 0, HB0.out, by rw [HG0.out.1, HG0.out.2]; exact Lst.nil _ _ _ _, (Fr.refl _ _).alloc _⟩
  case round =>
    obtain ⟨k, hk1, hk2, rfl, hx⟩ := hrel
    obtain ⟨v, hB, hL, hF⟩ := hx.out
    have HB := Lib.hid hB
    have HL := Lib.hid hL
    have HF := Lib.hid hF
    clear hx hB hL hF
    by_cases hlt : k < b
    · have hlt' : (k : Int) < (b : Int) := by omega
      have HM := Lib.hid (H.out.fr HF.out (by simp) (by simp))
      have c0 : wr.cell? ⟨r, 0, none⟩ = some (.slice (some ⟨rb, 0, none⟩) size size) := HM.out.B.cell 0
      have ck := HM.out.cell (i := k) (by omega)
      have i1 : (0 : Int) ≤ (k : Int) := by omega
      have i2' : (k : Int) < (size : Int) := by omega
      rw [← HG.out k hk1 hlt] at ck
      have hn1 : cnt G 0 (k + 1) = cnt G 0 k + if G k then 1 else 0 := by rw [cnt_add, Nat.zero_add]; simp [cnt]
      have hn2 := plcV_next G k
      have hcl := cnt_le G 0 k
      obtain ⟨q, hq⟩ : ∃ q, cnt G 0 k = q := ⟨_, rfl⟩
      obtain ⟨l, hl⟩ : ∃ l, plcV G k = l := ⟨_, rfl⟩
      obtain ⟨B, hBB⟩ : ∃ B, G k = B := ⟨_, rfl⟩
      rw [hq, hl] at HL
      rw [hq, hBB] at hn1
      rw [hl, hBB] at hn2
      rw [hBB] at ck
      rw [hq] at hcl
      have HN := Lib.hid (And.intro hn1 hn2)
      clear hn1 hn2 hq hl hBB
      cases B with
      | false =>
        go_wp2_with fail
        go_roundw
        case rel => exact ⟨k + 1, by omega, by omega, by go_num, v, HB.out, by rw [HN.out.1, HN.out.2]; simpa using HL.out, HF.out⟩
        case measure => simp [intOf]; omega
      | true =>
        obtain ⟨Av, capv, rfl, _, _⟩ := HL.out.look
        have cB : wr.cell? ⟨w.heap.size, 1, none⟩ = some (.slice Av q capv) := HB.out.cell 1
        have hsz := HF.out.size
        have hwb := HB.out.lt
        go_wp2_with (at_builtin; refine wpList_append_lst _ rfl (.tmp 56) (.tmp 58) _ rfl w.heap.size 3 i2 _ 1 8 Tryd.underlying22 hi2 hz2 hs2 hb2 rfl _ q l rfl (HL.out.alloc _) ⟨wr.heap.size, 0, none⟩ 1 1 [.int .i64 (k : Nat)] rfl rfl (World.news_of_block (heap_alloc_new _ _)) ?c2 ?c3 ?c4 ?c5 ?c6)
        case c2 => simp [Value.oneCell']
        case c3 => unfold maxLen; omega
        case c4 => omega
        case c5 => first | omega | (simp; omega)
        case c6 =>
          intro v2 w7 hown hgrow hat
          have hne : ∀ j, (Value.slice Av q capv).ownBlock = some j → j ≠ w.heap.size := HL.out.ne_bk HB.out (by decide)
          have hfr : Fr (Value.slice Av q capv).ownBlock.toList wr w7 := ((Fr.refl _ _).alloc _).grown hgrow (fun j hj => .inl (by simp [hj]))
          have HB7 := Lib.hid (HB.out.fr hfr (fun hx => hne _ (by simpa using hx) rfl))
          have HF7 : Hid (Fr [] w w7) := HF.out.trans hfr (fun j hj => .inr ((HL.out.lt j (by simpa using hj)).1))
          have HL7 : Hid (Lst w7 w.heap.size 3 1 v2 (q + 1) (l ++ [.int .i64 (k : Nat)])) := hown
          have hne2 : ∀ j, v2.ownBlock = some j → j ≠ w.heap.size := HL7.out.ne_bk HB7.out (by decide)
          have HNE := Lib.hid hne2
          have cz := HB7.out.cell 1
          have fz := HB7.out.free 1
          obtain ⟨A2, cap2, rfl, _, _⟩ := HL7.out.look
          clear hown hgrow hat hfr hne hne2
          go_wp2
          go_roundw
          case rel =>
            refine ⟨k + 1, by omega, by omega, by go_num, .slice A2 (q + 1) cap2, (HB7.out.put 1 _), ?_, HF7.out.setCell (.inr (Nat.le_refl _)) _⟩
            rw [HN.out.1, HN.out.2]
            exact HL7.out.far (fun j hj => HNE.out j hj) _
          case measure => simp [intOf]; omega
    · obtain rfl : k = b := by omega
      go_wp2_with fail
      go_ret2
      exact ⟨w.heap.size, v, rfl, ⟨HB.out, HL.out.mono (Nat.zero_le _), hc, by omega⟩, HF.out, Nat.le_refl _, fun j hj => (HL.out.lt j hj).1⟩

set_option maxHeartbeats 800000 in
theorem rto_any (rs a b c n : Nat) (lv : Value) (f : Nat → Bool) (at_ : Int) (w : World) (h : RefS w rs c lv f n) (hf : ∀ j, f j = true → a ≤ j ∧ j < b) (hb : b ≤ n) :
    Calls Tryd.prog 60 #[.pointer (some ⟨rs, 0, none⟩), .int .i64 at_] w fun e w' => e = .returned (.tuple #[.int .i64 (toI f a b c at_), .bool (toB f a b at_)]) ∧ w = w' := by
  have hc1 := h.c1
  have hn1 := h.n1
  have hcl := cnt_le f 0 n
  obtain ⟨q, hq⟩ : ∃ q, cnt f 0 n = q := ⟨_, rfl⟩
  have hL := h.L
  have hpl := plcs_length f n
  rw [hq] at hL hcl hpl
  have hB := h.B
  obtain ⟨Av, capv, rfl, _, _⟩ := hL.look
  have c0 : w.cell? ⟨rs, 0, none⟩ = some (.int .i64 c) := hB.cell 0
  have c1 : w.cell? ⟨rs, 1, none⟩ = some (.slice Av q capv) := hB.cell 1
  have HL := Lib.hid hL
  have HF := Lib.hid hf
  have HP := Lib.hid hpl
  clear h hf hL hB hq hpl
  go_enter Tryd.func60, Tryd.ntmps60
  go_wp2_with fail
  go_loopw [6] (fun i wr => ∃ k : Nat, k ≤ q ∧ i = .int .i64 k ∧ Hid (∀ j p : Nat, j < k → (plcs f n)[j]? = some p → (p : Int) ≠ at_) ∧ w = wr) (fun i _ => q - (intOf i).toNat)
  case atStart => exact ⟨0, by omega, rfl, fun j p h1 h2 => by omega, rfl⟩
  case round =>
    obtain ⟨k, hk, rfl, HQ, rfl⟩ := hrel
    by_cases hlt : k < q
    · have hks : (k : Int) < (q : Int) := by omega
      have k0 : (0 : Int) ≤ (k : Int) := by omega
      obtain ⟨p, hp⟩ : ∃ p, (plcs f n)[k]? = some p := ⟨_, List.getElem?_eq_getElem (by have := HP.out; omega)⟩
      obtain ⟨g, off, cap, hv, _, _, _, _, _, _, hcell⟩ := HL.out.form (by omega)
      injection hv with hv1 _ hv3
      subst hv1
      have ck := hcell k _ (plcV_at hp)
      obtain ⟨p1, p2, p3⟩ := plcs_get f n k p hp
      have HPP := Lib.hid hp
      have HP2 := Lib.hid (And.intro p2 p3)
      clear hcell hp hv3 p2 p3
      by_cases he : (p : Int) = at_
      · have d : ((p : Int) == at_) = true := by simpa using he
        go_wp2_with fail
        go_ret2
        have e1 : toB f a b at_ = true := by
          obtain ⟨h1, h2⟩ := HF.out p HP2.out.1
          unfold toB
          rw [← he, decide_eq_true (by omega : (a : Int) ≤ (p : Int)), decide_eq_true (by omega : (p : Int) < (b : Int))]
          simpa using HP2.out.1
        have e2 : toI f a b c at_ = (c : Int) + (k : Nat) := by
          unfold toI
          rw [e1, if_pos rfl, ← he, Int.toNat_natCast, HP2.out.2]
        refine ⟨?_, rfl⟩
        rw [e1, e2]
        go_num
      · have d : ((p : Int) == at_) = false := by simpa using he
        go_wp2_with fail
        go_roundw
        case rel =>
          refine ⟨k + 1, by omega, by go_num, ?_, by first | rfl | trivial⟩
          show ∀ j p : Nat, j < k + 1 → (plcs f n)[j]? = some p → (p : Int) ≠ at_
          intro j p' h1 h2
          by_cases hj : j = k
          · subst hj
            rw [HPP.out] at h2
            injection h2 with h2
            subst h2
            exact he
          · exact HQ.out j p' (by omega) h2
        case measure => simp [intOf]; omega
    · obtain rfl : k = q := by omega
      have hks : ¬ (k : Int) < (k : Int) := by omega
      go_wp2_with fail
      go_ret2
      have e1 : toB f a b at_ = false := by
        rw [Bool.eq_false_iff]
        intro ht
        unfold toB at ht
        simp only [Bool.and_eq_true, decide_eq_true_eq] at ht
        obtain ⟨⟨h1, h2⟩, h3⟩ := ht
        have h4 := plcs_at f n at_.toNat (by omega) h3
        have h5 := (List.getElem?_eq_some_iff.1 h4).1
        exact HQ.out _ _ (by have := HP.out; omega) h4 (by omega)
      refine ⟨?_, rfl⟩
      unfold toI
      rw [e1]
      rfl

def backI (f : Nat → Bool) (c n : Nat) (t : Int) : Int := if (c : Int) ≤ t then ((plcs f n).getD (t - c).toNat 0 : Nat) else 0
def backB (f : Nat → Bool) (c n : Nat) (t : Int) : Bool := decide ((c : Int) ≤ t) && decide (t - c < (cnt f 0 n : Nat))
theorem rback_any (rs c n : Nat) (lv : Value) (f : Nat → Bool) (t : Int) (w : World) (h : RefS w rs c lv f n) (ht : t ≤ 9223372036854775807) :
    Calls Tryd.prog 61 #[.pointer (some ⟨rs, 0, none⟩), .int .i64 t] w fun e w' => e = .returned (.tuple #[.int .i64 (backI f c n t), .bool (backB f c n t)]) ∧ ∃ k, w' = w.drewN k := by
  have hc1 := h.c1
  have hn1 := h.n1
  have hcl := cnt_le f 0 n
  have hpl := plcs_length f n
  obtain ⟨q, hq⟩ : ∃ q, cnt f 0 n = q := ⟨_, rfl⟩
  have hL := h.L
  rw [hq] at hL hcl hpl
  have hB := h.B
  obtain ⟨Av, capv, rfl, _, _⟩ := hL.look
  have c0 : w.cell? ⟨rs, 0, none⟩ = some (.int .i64 c) := hB.cell 0
  have c1 : w.cell? ⟨rs, 1, none⟩ = some (.slice Av q capv) := hB.cell 1
  have HL := Lib.hid hL
  have HP := Lib.hid hpl
  have HQ := Lib.hid hq
  clear h hL hB hq hpl
  go_enter Tryd.func61, Tryd.ntmps61
  by_cases h1 : t < (c : Int)
  · go_upto_region 1 with fail
    go_quiet (fail)
    go_wp2_with fail
    go_ret2
    refine ⟨?_, _, rfl⟩
    unfold backI backB
    rw [if_neg (by omega), decide_eq_false (by omega : ¬ (c : Int) ≤ t)]
    rfl
  · have d1 : decide (t < (c : Int)) = false := by simpa using h1
    obtain ⟨k, hk⟩ := Int.eq_ofNat_of_zero_le (show 0 ≤ t - c by omega)
    obtain rfl : t = (c : Int) + (k : Int) := by omega
    have sw : IntKind.i64.wrap ((c : Int) + (k : Int) - (c : Int)) = (k : Int) := by rw [hk]; exact IntWalk.i64_in _ (by omega)
    by_cases h2 : (q : Int) ≤ (k : Int)
    · go_upto_region 1 with fail
      go_quiet (fail)
      go_wp2_with fail
      go_ret2
      refine ⟨?_, _, rfl⟩
      have e : (plcs f n).getD k 0 = 0 := by
        rw [List.getD_eq_getElem?_getD, List.getElem?_eq_none (by have := HP.out; omega)]
        rfl
      unfold backI backB
      rw [hk, Int.toNat_natCast, e, HQ.out, decide_eq_false (by omega : ¬ (k : Int) < (q : Int)), Bool.and_false]
      simp
    · have d2 : decide ((q : Int) ≤ (k : Int)) = false := by simpa using h2
      have hks : (k : Int) < (q : Int) := by omega
      have k0 : (0 : Int) ≤ (k : Int) := by omega
      obtain ⟨p, hp⟩ : ∃ p, (plcs f n)[k]? = some p := ⟨_, List.getElem?_eq_getElem (by have := HP.out; omega)⟩
      obtain ⟨g, off, cap, hv, _, _, _, _, _, _, hcell⟩ := HL.out.form (by omega)
      injection hv with hv1 _ hv3
      subst hv1
      have ck := hcell k _ (plcV_at hp)
      have e : (plcs f n).getD k 0 = p := by
        rw [List.getD_eq_getElem?_getD, hp]
        rfl
      have HE := Lib.hid e
      clear hcell hp hv3 e
      go_upto_region 1 with fail
      go_quiet (fail)
      go_upto_region 3 with fail
      go_quiet (fail)
      go_wp2_with fail
      go_ret2
      refine ⟨?_, _, rfl⟩
      unfold backI backB
      rw [hk, Int.toNat_natCast, HE.out, HQ.out, if_pos (by omega), decide_eq_true (by omega : (c : Int) ≤ (c : Int) + (k : Int)), decide_eq_true hks]
      rfl
end Go.Proofs.YtheiacfdbhjbmaaDoor
