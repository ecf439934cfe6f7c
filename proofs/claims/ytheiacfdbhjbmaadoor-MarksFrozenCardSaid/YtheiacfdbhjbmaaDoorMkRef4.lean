/-
  Marks: the document's runs.
-/
import Derived.Test.YtheiacfdbhjbmaaDoorMkRef3
import Derived.Test.YtheiacfdbhjbmaaDoorMkRun1
namespace Go.Proofs.YtheiacfdbhjbmaaDoor
open Go.RowKit Mk
set_option linter.unusedVariables false

/-- The runs of the first k words: beginnings and lengths. -/
def addLast (l : List (Nat × Nat)) : List (Nat × Nat) := l.dropLast ++ (l.getLast?.map fun x => (x.1, x.2 + 1)).toList
def rl (F : Nat → Bool) : Nat → List (Nat × Nat)
  | 0 => []
  | k + 1 => if F k then (if k ≠ 0 ∧ F (k - 1) = true then addLast (rl F k) else rl F k ++ [(k, 1)]) else rl F k
def gRun (F : Nat → Bool) (size : Nat) (x : Nat) : Nat × Nat := (x, endN F size x - x)

structure RInv (F : Nat → Bool) (size k : Nat) : Prop where
  h : ∃ pre K a, a ≤ size ∧ size < a + K ∧ begs F size = pre ++ begF F size K a ∧ (a < size → F a = true) ∧
    ((¬ (k ≠ 0 ∧ F (k - 1) = true) ∧ a = nextN F size k ∧ rl F k = pre.map (gRun F size)) ∨
     ((k ≠ 0 ∧ F (k - 1) = true) ∧ a < k ∧ (∀ j, a ≤ j → j < k → F j = true) ∧ rl F k = pre.map (gRun F size) ++ [(a, k - a)]))

theorem nextN_skip {F : Nat → Bool} {size k : Nat} (hk : k < size) (hf : F k = false) : nextN F size k = nextN F size (k + 1) := by
  unfold nextN
  rw [show size - k = (size - (k + 1)) + 1 by omega]
  simp only [nx]
  rw [if_neg (by simp [hf])]
theorem nextN_here {F : Nat → Bool} {size k : Nat} (hk : k < size) (hf : F k = true) : nextN F size k = k := by
  unfold nextN
  rw [show size - k = (size - (k + 1)) + 1 by omega]
  simp only [nx]
  rw [if_pos hf]
theorem rinv_next {F : Nat → Bool} {size k : Nat} (hk : k < size) (h : RInv F size k) : RInv F size (k + 1) := by
  obtain ⟨pre, K, a, ha, hK, hb, hfa, ⟨h1, h2, h3⟩ | ⟨h1, h2, h3, h4⟩⟩ := h.h
  · cases hf : F k with
    | false =>
      refine ⟨pre, K, a, ha, hK, hb, hfa, .inl ⟨by simp [hf], by rw [h2, nextN_skip hk hf], ?_⟩⟩
      simp only [rl]
      rw [if_neg (by simp [hf])]
      exact h3
    | true =>
      have ha2 : a = k := by rw [h2, nextN_here hk hf]
      subst ha2
      refine ⟨pre, K, a, ha, hK, hb, hfa, .inr ⟨by simp [hf], by omega, fun j hj1 hj2 => ?_, ?_⟩⟩
      · rw [show j = a by omega]; exact hf
      · simp only [rl]
        rw [if_pos hf, if_neg h1, h3, show a + 1 - a = 1 by omega]
  · cases hf : F k with
    | false =>
      have hE : k = endN F size a := endN_eq (by omega) (by omega) h3 (fun _ => hf)
      obtain ⟨K', rfl⟩ : ∃ K', K = K' + 1 := ⟨K - 1, by omega⟩
      have hn := nextN_spec F (show k ≤ size by omega)
      refine ⟨pre ++ [a], K', nextN F size k, hn.2.1, by omega, ?_, hn.2.2.2, .inl ⟨by simp [hf], nextN_skip hk hf, ?_⟩⟩
      · rw [hb, begF_step F size (by omega), ← hE]
        simp
      · simp only [rl]
        rw [if_neg (by simp [hf]), h4, List.map_append]
        simp [gRun, ← hE]
    | true =>
      refine ⟨pre, K, a, ha, hK, hb, hfa, .inr ⟨by simp [hf], by omega, fun j hj1 hj2 => ?_, ?_⟩⟩
      · by_cases hj : j = k
        · subst hj; exact hf
        · exact h3 j hj1 (by omega)
      · simp only [rl]
        rw [if_pos hf, if_pos h1, h4]
        simp [addLast]
        omega
theorem rinv_zero (F : Nat → Bool) (size : Nat) : RInv F size 0 := by
  have hn := nextN_spec F (Nat.zero_le size)
  exact ⟨[], size + 1, nextN F size 0, hn.2.1, by omega, rfl, hn.2.2.2, .inl ⟨by simp, rfl, rfl⟩⟩
theorem rinv_all (F : Nat → Bool) (size : Nat) : ∀ k, k ≤ size → RInv F size k
  | 0, _ => rinv_zero F size
  | k + 1, h => rinv_next (by omega) (rinv_all F size k (by omega))
theorem rl_begs (F : Nat → Bool) (size : Nat) : rl F size = (begs F size).map (gRun F size) := by
  obtain ⟨pre, K, a, ha, hK, hb, hfa, ⟨h1, h2, h3⟩ | ⟨h1, h2, h3, h4⟩⟩ := (rinv_all F size size (Nat.le_refl _)).h
  · have hn := nextN_spec F (Nat.le_refl size)
    have : a = size := by omega
    rw [h3, hb, begF_end F size (by omega)]
    simp
  · have hE : size = endN F size a := endN_eq (by omega) (Nat.le_refl _) h3 (fun h => by omega)
    obtain ⟨K', rfl⟩ : ∃ K', K = K' + 1 := ⟨K - 1, by omega⟩
    have hn := nextN_spec F (Nat.le_refl size)
    rw [h4, hb, begF_step F size (by omega), ← hE, begF_end F size (by omega)]
    simp [gRun, ← hE]
theorem rl_open {F : Nat → Bool} {k : Nat} (h1 : k ≠ 0) (h2 : F (k - 1) = true) : 0 < (rl F k).length := by
  obtain ⟨j, rfl⟩ : ∃ j, k = j + 1 := ⟨k - 1, by omega⟩
  have h2 : F j = true := h2
  simp only [rl]
  rw [if_pos h2]
  split
  · rename_i h
    have := rl_open h.1 h.2
    cases hl : rl F j with
    | nil => rw [hl] at this; simp at this
    | cons x l => simp [addLast, List.getLast?_cons]
  · simp
theorem rl_len (F : Nat → Bool) : ∀ k, (rl F k).length ≤ k
  | 0 => Nat.le_refl _
  | k + 1 => by
    have := rl_len F k
    simp only [rl]
    split
    · split
      · have e : (addLast (rl F k)).length ≤ (rl F k).length := by
          unfold addLast
          cases hl : rl F k with
          | nil => simp
          | cons x l => simp [List.getLast?_cons]
        omega
      · simp; omega
    · omega
theorem rl_small (F : Nat → Bool) (size : Nat) {k : Nat} (hk : k ≤ size) : ∀ x ∈ rl F k, x.2 ≤ size := by
  obtain ⟨pre, K, a, ha, hK, hb, hfa, ⟨h1, h2, h3⟩ | ⟨h1, h2, h3, h4⟩⟩ := (rinv_all F size k hk).h
  all_goals
    have hpre : ∀ x ∈ pre, x < size := fun x hx => by
      have hm : x ∈ begs F size := by rw [hb]; simp [hx]
      have hn := nextN_spec F (Nat.zero_le size)
      exact (begF_mem F size (size + 1) (nextN F size 0) hn.2.1 hn.2.2.2 x hm).2.1
    intro x hx
    first | rw [h3] at hx | rw [h4] at hx
    simp only [List.mem_append, List.mem_map, List.mem_singleton] at hx
  · obtain ⟨y, hy, rfl⟩ := hx
    have := (endN_spec F (Nat.le_of_lt (hpre y hy))).2.1
    unfold gRun
    simp
    omega
  · rcases hx with ⟨y, hy, rfl⟩ | rfl
    · have := (endN_spec F (Nat.le_of_lt (hpre y hy))).2.1
      unfold gRun
      simp
      omega
    · show k - a ≤ size
      omega

def rlA (F : Nat → Bool) (k : Nat) : List Value := (rl F k).map fun x => .int .i64 (x.1 : Nat)
def rlN (F : Nat → Bool) (k : Nat) : List Value := (rl F k).map fun x => .int .i64 (x.2 : Nat)
theorem rl_off {F : Nat → Bool} {k : Nat} (h : F k = false) : rlA F (k + 1) = rlA F k ∧ rlN F (k + 1) = rlN F k ∧ (rl F (k + 1)).length = (rl F k).length := by
  unfold rlA rlN
  simp only [rl]
  rw [if_neg (by simp [h])]
  exact ⟨rfl, rfl, rfl⟩
theorem rl_new {F : Nat → Bool} {k : Nat} (h : F k = true) (h2 : ¬ (k ≠ 0 ∧ F (k - 1) = true)) : rlA F (k + 1) = rlA F k ++ [.int .i64 (k : Nat)] ∧ rlN F (k + 1) = rlN F k ++ [.int .i64 1] ∧ (rl F (k + 1)).length = (rl F k).length + 1 := by
  unfold rlA rlN
  simp only [rl]
  rw [if_pos h, if_neg h2]
  simp
theorem rl_more {F : Nat → Bool} {k : Nat} (h : F k = true) (h2 : k ≠ 0 ∧ F (k - 1) = true) : rlA F (k + 1) = rlA F k ∧ (rl F (k + 1)).length = (rl F k).length ∧
    ∃ q y, (rl F k).length = q + 1 ∧ (rlN F k)[q]? = some (.int .i64 (y : Nat)) ∧ (∃ x ∈ rl F k, x.2 = y) ∧ rlN F (k + 1) = (rlN F k).set q (.int .i64 ((y + 1 : Nat) : Int)) := by
  have hp := rl_open h2.1 h2.2
  obtain ⟨l, x, hl⟩ : ∃ l x, rl F k = l ++ [x] := by
    rcases List.eq_nil_or_concat (rl F k) with e | ⟨l, x, e⟩
    · rw [e] at hp; simp at hp
    · exact ⟨l, x, by simpa using e⟩
  have hn : rl F (k + 1) = l ++ [(x.1, x.2 + 1)] := by
    show (if F k = true then (if k ≠ 0 ∧ F (k - 1) = true then addLast (rl F k) else rl F k ++ [(k, 1)]) else rl F k) = _
    rw [if_pos h, if_pos h2, hl]
    simp [addLast]
  unfold rlA rlN
  rw [hn, hl]
  refine ⟨by simp, by simp, l.length, x.2, by simp, by simp, ⟨x, by simp, rfl⟩, ?_⟩
  simp

def RRunsOk (F : Nat → Bool) (size : Nat) (w : World) (e : Ending) (w' : World) : Prop :=
  ∃ vA vN q, e = .returned (.tuple #[vA, vN]) ∧ q = (rl F size).length ∧ Lst w' w.heap.size 3 1 vA q (rlA F size) ∧ Lst w' w.heap.size 3 1 vN q (rlN F size) ∧ Fr [] w w'

set_option maxHeartbeats 1600000 in
theorem rruns_any (r rb size : Nat) (F : Nat → Bool) (w : World) (h : RefM w r rb size F) :
    Calls Tryd.prog 57 #[.pointer (some ⟨r, 0, none⟩)] w (RRunsOk F size w) := by
  obtain ⟨i2, hi2, hz2, hs2, hb2⟩ := info_parts int_info
  have hm := h.most
  have H := Lib.hid h
  clear h
  go_enter Tryd.func57, Tryd.ntmps57
  go_upto_region 3 with fail
  go_loopw [4, 5, 6] (fun uA uN i wr => ∃ (k q : Nat) (vA vN : Value), uA = vA ∧ uN = vN ∧ k ≤ size ∧ q ≤ k ∧ i = .int .i64 k ∧ Hid (q = (rl F k).length) ∧ Hid (Lst wr w.heap.size 3 1 vA q (rlA F k) ∧ Lst wr w.heap.size 3 1 vN q (rlN F k) ∧ Fr [] w wr ∧ ∀ j, vA.ownBlock = some j → vN.ownBlock ≠ some j)) (fun _ _ i _ => size - (intOf i).toNat)
  case atStart => exact ⟨0, 0, _, _, rfl, rfl, by omega, by omega, rfl, rfl, Lst.nil _ _ _ _, Lst.nil _ _ _ _, Fr.refl _ _, fun j hj => by simp [Value.ownBlock] at hj⟩
  case round =>
    obtain ⟨k, q, vA, vN, rfl, rfl, hk, hqk, rfl, HQ, hx⟩ := hrel
    obtain ⟨hA, hN, hF, hd⟩ := hx.out
    have HA := Lib.hid hA
    have HN := Lib.hid hN
    have HF := Lib.hid hF
    have HD := Lib.hid hd
    clear hx hA hN hF hd
    have HM := Lib.hid (H.out.fr HF.out (by simp) (by simp))
    have c0 : wr.cell? ⟨r, 0, none⟩ = some (.slice (some ⟨rb, 0, none⟩) size size) := HM.out.B.cell 0
    by_cases hlt : k < size
    · have ck := HM.out.cell (i := k) hlt
      have hks : (k : Int) < (size : Int) := by omega
      have i1 : (0 : Int) ≤ (k : Int) := by omega
      obtain ⟨B, hBB⟩ : ∃ B, F k = B := ⟨_, rfl⟩
      rw [hBB] at ck
      have HB := Lib.hid hBB
      clear hBB
      cases B with
      | false =>
        have hst := rl_off HB.out
        go_wp2_with fail
        go_roundw
        case rel => exact ⟨k + 1, q, _, _, rfl, rfl, by omega, by omega, by go_num, by rw [hst.2.2]; exact HQ.out, by rw [hst.1]; exact HA.out, by rw [hst.2.1]; exact HN.out, HF.out, HD.out⟩
        case measure => simp [intOf]; omega
      | true =>
        obtain ⟨Aa, capa, rfl, _, _⟩ := HA.out.look
        obtain ⟨An, capn, rfl, _, _⟩ := HN.out.look
        by_cases hop : k ≠ 0 ∧ F (k - 1) = true
        · obtain ⟨s1, s2, q', y, s3, s4, ⟨x, sx, sy⟩, s5⟩ := rl_more HB.out hop
          have hys : y ≤ size := by rw [← sy]; exact rl_small F size hk x sx
          obtain rfl : q = q' + 1 := by have := HQ.out; omega
          obtain ⟨j, rfl⟩ : ∃ j, k = j + 1 := ⟨k - 1, by omega⟩
          have cj := HM.out.cell (i := j) (by omega)
          rw [show F j = true from hop.2] at cj
          have hj0 : decide ((0 : Int) < ((j + 1 : Nat) : Int)) = true := decide_eq_true (by omega)
          have hjw : IntKind.i64.wrap (((j + 1 : Nat) : Int) - 1) = (j : Int) := by rw [show ((j + 1 : Nat) : Int) - 1 = (j : Int) by omega]; exact IntWalk.i64_in _ (by omega)
          have hj1 : (j : Int) < (size : Int) := by omega
          have hj2 : (0 : Int) ≤ (j : Int) := by omega
          obtain ⟨g, off, cap, hv, hgb, _, _, _, _, hfz, hcell⟩ := HN.out.form (by omega)
          injection hv with hv1 _ hv3
          subst hv1
          have cy := hcell q' _ s4
          have fy := hfz (off + q')
          have hqw : IntKind.i64.wrap (((q' + 1 : Nat) : Int) - 1) = (q' : Int) := by rw [show ((q' + 1 : Nat) : Int) - 1 = (q' : Int) by omega]; exact IntWalk.i64_in _ (by omega)
          have hq1 : (q' : Int) < ((q' + 1 : Nat) : Int) := by omega
          have hq2 : (0 : Int) ≤ (q' : Int) := by omega
          have hyw : IntKind.i64.wrap ((y : Int) + 1) = ((y + 1 : Nat) : Int) := by rw [show ((y + 1 : Nat) : Int) = (y : Int) + 1 by omega]; exact IntWalk.i64_in _ (by omega)
          have S := Lib.hid (And.intro s1 (And.intro s2 (And.intro s3 s5)))
          have HGB := Lib.hid hgb
          clear s1 s2 s3 s4 s5 sx sy hcell hfz hop hv3 hgb
          go_wp2_with fail
          go_roundw
          case rel =>
            refine ⟨j + 1 + 1, q' + 1, _, _, rfl, rfl, by omega, by omega, by go_num, ?_, ?_, ?_, HF.out.setCell (.inr HGB.out) _, HD.out⟩
            · rw [S.out.2.1]; exact HQ.out
            · rw [S.out.1]
              exact HA.out.far (fun i hi hx => HD.out i hi (by rw [hx]; rfl)) _
            · rw [S.out.2.2.2]
              exact HN.out.put _
          case measure => simp [intOf]; omega
        · obtain ⟨s1, s2, s3⟩ := rl_new HB.out hop
          have S := Lib.hid (And.intro s1 (And.intro s2 s3))
          have hql := rl_len F k
          go_upto_region 6 with fail
          go_cut [35] (fun v wx => v = .bool false ∧ wr = wx)
          case first =>
            rcases Nat.eq_zero_or_pos k with h0 | h0
            · subst h0
              go_wp2_with fail
              all_goals
                go_meet
                case rel => exact ⟨rfl, rfl⟩
            · obtain ⟨j, rfl⟩ : ∃ j, k = j + 1 := ⟨k - 1, by omega⟩
              have cj := HM.out.cell (i := j) (by omega)
              have hfj : F j = false := by
                rw [Bool.eq_false_iff]
                intro h
                exact hop ⟨by omega, h⟩
              rw [hfj] at cj
              have hj0 : decide ((0 : Int) < ((j + 1 : Nat) : Int)) = true := decide_eq_true (by omega)
              have hjw : IntKind.i64.wrap (((j + 1 : Nat) : Int) - 1) = (j : Int) := by rw [show ((j + 1 : Nat) : Int) - 1 = (j : Int) by omega]; exact IntWalk.i64_in _ (by omega)
              have hj1 : (j : Int) < (size : Int) := by omega
              have hj2 : (0 : Int) ≤ (j : Int) := by omega
              go_wp2_with fail
              all_goals
                go_meet
                case rel => exact ⟨rfl, rfl⟩
          obtain ⟨rfl, rfl⟩ := hcut
          clear s1 s2 s3 hop ck
          have hsz := HF.out.size
          go_wp2_with (at_builtin; refine wpList_append_lst _ rfl (.tmp 44) (.tmp 46) _ rfl w.heap.size 3 i2 _ 1 8 Tryd.underlying22 hi2 hz2 hs2 hb2 rfl _ q (rlA F k) rfl (HA.out.alloc _) ⟨wr.heap.size, 0, none⟩ 1 1 [.int .i64 (k : Nat)] rfl rfl (World.news_of_block (heap_alloc_new _ _)) ?c2 ?c3 ?c4 ?c5 ?c6)
          case c2 => simp [Value.oneCell']
          case c3 => unfold maxLen; omega
          case c4 => omega
          case c5 => first | omega | (simp; omega)
          case c6 =>
            intro v2 w7 hown hgrow hat
            have hfr : Fr (Value.slice Aa q capa).ownBlock.toList wr w7 := ((Fr.refl _ _).alloc _).grown hgrow (fun j hj => .inl (by simp [hj]))
            have HF7 : Hid (Fr [] w w7) := HF.out.trans hfr (fun j hj => .inr ((HA.out.lt j (by simpa using hj)).1))
            have HA7 : Hid (Lst w7 w.heap.size 3 1 v2 (q + 1) (rlA F k ++ [.int .i64 (k : Nat)])) := hown
            have HN7 : Hid (Lst w7 w.heap.size 3 1 (Value.slice An q capn) q (rlN F k)) := HN.out.fr hfr (fun j hj hx => HD.out j (by simpa using hx) hj)
            have HD7 : Hid (∀ j, v2.ownBlock = some j → (Value.slice An q capn).ownBlock ≠ some j) := fun j hj hn => by
              rcases hat with e | e
              · rw [e] at hj; exact HD.out j hj hn
              · rw [e] at hj
                injection hj with hj
                have h1 := (HN.out.lt j hn).2
                try simp at hj
                omega
            have hsz7 := HF7.out.size
            obtain ⟨A2, cap2, rfl, _, _⟩ := HA7.out.look
            clear hown hgrow hat hfr c0
            go_wp2_with (at_builtin; refine wpList_append_lst _ rfl (.tmp 48) (.tmp 49) _ rfl w.heap.size 3 i2 _ 1 8 Tryd.underlying22 hi2 hz2 hs2 hb2 rfl _ q (rlN F k) rfl (HN7.out.alloc _) ⟨w7.heap.size, 0, none⟩ 1 1 [.int .i64 1] rfl rfl (World.news_of_block (heap_alloc_new _ _)) ?c2 ?c3 ?c4 ?c5 ?c6)
            case c2 => simp [Value.oneCell']
            case c3 => unfold maxLen; omega
            case c4 => omega
            case c5 => first | omega | (simp; omega)
            case c6 =>
              intro v3 w8 hown hgrow hat
              have hfr : Fr (Value.slice An q capn).ownBlock.toList w7 w8 := ((Fr.refl _ _).alloc _).grown hgrow (fun j hj => .inl (by simp [hj]))
              have HF8 : Hid (Fr [] w w8) := HF7.out.trans hfr (fun j hj => .inr ((HN7.out.lt j (by simpa using hj)).1))
              have HN8 : Hid (Lst w8 w.heap.size 3 1 v3 (q + 1) (rlN F k ++ [.int .i64 1])) := hown
              have HA8 : Hid (Lst w8 w.heap.size 3 1 (Value.slice A2 (q + 1) cap2) (q + 1) (rlA F k ++ [.int .i64 (k : Nat)])) := HA7.out.fr hfr (fun j hj hx => HD7.out j hj (by simpa using hx))
              have HD8 : Hid (∀ j, (Value.slice A2 (q + 1) cap2).ownBlock = some j → v3.ownBlock ≠ some j) := fun j hj hn => by
                rcases hat with e | e
                · rw [e] at hn; exact HD7.out j hj hn
                · rw [e] at hn
                  injection hn with hn
                  have h1 := (HA7.out.lt j hj).2
                  try simp at hn
                  omega
              clear hown hgrow hat hfr
              go_wp2
              go_roundw
              case rel =>
                refine ⟨k + 1, q + 1, _, _, rfl, rfl, by omega, by omega, by go_num, ?_, ?_, ?_, HF8.out, HD8.out⟩
                · show q + 1 = _
                  rw [S.out.2.2, ← HQ.out]
                · rw [S.out.1]; exact HA8.out
                · rw [S.out.2.1]; exact HN8.out
              case measure => simp [intOf]; omega
    · obtain rfl : k = size := by omega
      have hks : ¬ (k : Int) < (k : Int) := by omega
      go_wp2_with fail
      go_ret2
      exact ⟨_, _, q, rfl, HQ.out, HA.out, HN.out, HF.out⟩
end Go.Proofs.YtheiacfdbhjbmaaDoor
