/-
  Marks: pairs; the function literals of MarksFrozen that hold a list against the runs.
-/
import Derived.Test.YtheiacfdbhjbmaaDoorMkRunV
import Derived.Test.YtheiacfdbhjbmaaDoorMkDk2
import Derived.Test.YtheiacfdbhjbmaaDoorMkSum1
namespace Go.Proofs.YtheiacfdbhjbmaaDoor
open Go.RowKit Go.Shelf Mk
set_option linter.unusedVariables false

/-- The first i runs, two numbers each. -/
def prI (F : Nat → Bool) (size : Nat) : Nat → List Int
  | 0 => []
  | i + 1 => prI F size i ++ [(((begs F size).getD i 0 : Nat) : Int), ((endN F size ((begs F size).getD i 0) - (begs F size).getD i 0 : Nat) : Int)]
def prV (l : List Int) : List Value := l.map (Value.int .i64)
theorem prI_length (F : Nat → Bool) (size : Nat) : ∀ i, (prI F size i).length = 2 * i
  | 0 => rfl
  | i + 1 => by
    show (prI F size i ++ _).length = _
    rw [List.length_append, prI_length F size i]
    simp
    omega
theorem prI_next {F : Nat → Bool} {size i x : Nat} (h : (begs F size)[i]? = some x) : prI F size (i + 1) = prI F size i ++ [(x : Int), ((endN F size x - x : Nat) : Int)] := by
  have : (begs F size).getD i 0 = x := by rw [List.getD_eq_getElem?_getD, h]; rfl
  show prI F size i ++ _ = _
  rw [this]
theorem prI_pre (F : Nat → Bool) (size : Nat) {i : Nat} : ∀ j, i ≤ j → ∃ r, prI F size j = prI F size i ++ r
  | 0, h => ⟨[], by have : i = 0 := by omega
                    subst this; simp⟩
  | j + 1, h => by
    by_cases e : i = j + 1
    · exact ⟨[], by rw [e]; simp⟩
    · obtain ⟨r, hr⟩ := prI_pre F size j (i := i) (by omega)
      refine ⟨r ++ [(((begs F size).getD j 0 : Nat) : Int), ((endN F size ((begs F size).getD j 0) - (begs F size).getD j 0 : Nat) : Int)], ?_⟩
      show prI F size j ++ _ = _
      rw [hr, List.append_assoc]
/-- What stands at the i-th run's two places. -/
theorem prI_at {F : Nat → Bool} {size i j x : Nat} (hij : i < j) (h : (begs F size)[i]? = some x) : (prI F size j)[2 * i]? = some (x : Int) ∧ (prI F size j)[2 * i + 1]? = some ((endN F size x - x : Nat) : Int) := by
  obtain ⟨r, hr⟩ := prI_pre F size (i := i + 1) j (by omega)
  have hl := prI_length F size i
  rw [hr, prI_next h, List.append_assoc]
  refine ⟨?_, ?_⟩
  · rw [List.getElem?_append_right (by omega), hl, Nat.sub_self]
    rfl
  · rw [List.getElem?_append_right (by omega), hl, show 2 * i + 1 - 2 * i = 1 by omega]
    rfl
theorem prV_at {l : List Int} {i : Nat} {x : Int} (h : l[i]? = some x) : (prV l)[i]? = some (.int .i64 x) := by
  unfold prV
  rw [List.getElem?_map, h]
  rfl

theorem Fr.keeps {n₀ : Nat} {S : List Nat} {W W' : World} (h : Fr S W W') (hS : ∀ x ∈ S, ∃ t cs, Bk W x t cs) : KeepsFrom n₀ W W' :=
  ⟨h.size, fun k o hB hk ho => (h.block k (Array.getElem?_eq_some_iff.1 hk).1 (fun hx => by
    obtain ⟨t, cs, hb⟩ := hS k hx
    unfold Bk at hb
    rw [hk] at hb
    injection hb with hb
    subst hb
    cases ho)).trans hk⟩

theorem begs_le (F : Nat → Bool) (size : Nat) : (begs F size).length ≤ size := by
  have h : ∀ i, i ≤ (begs F size).length → i ≤ sN F size i := by
    intro i
    induction i with
    | zero => intro _; exact Nat.zero_le _
    | succ i ih =>
      intro hi
      obtain ⟨x, hx⟩ : ∃ x, (begs F size)[i]? = some x := ⟨_, List.getElem?_eq_getElem (by omega)⟩
      obtain ⟨_, _, _, h4⟩ := sums_step hx
      have hn := nextN_spec F (Nat.zero_le size)
      obtain ⟨_, m2, m3⟩ := begF_mem F size (size + 1) (nextN F size 0) hn.2.1 hn.2.2.2 x (List.mem_of_getElem? hx)
      have := endN_lt F m2 m3
      have := ih (by omega)
      omega
  have h1 := h _ (Nat.le_refl _)
  obtain ⟨_, h2, h3, _⟩ := sums_inv F size _ (Nat.le_refl _)
  have := cnt_le F 0 (eN F size (begs F size).length)
  omega

def Pair1Ok (bl n₀ i : Nat) (l : List Int) (x n : Nat) (v : Value) (W : World) (e : Ending) (W' : World) : Prop :=
  e = .returned (.bool (decide (i ≤ 8191))) ∧ ∃ v', Bk W' bl 22 #[v'] ∧ Lst W' n₀ 3 1 v' (2 * (i + 1)) (prV (l ++ [(x : Int), (n : Int)])) ∧ Fr (bl :: v.ownBlock.toList) W W'

set_option maxHeartbeats 800000 in
theorem pair1_any (bl n₀ i : Nat) (v : Value) (l : List Int) (x n : Nat) (W : World) (hB : Bk W bl 22 #[v]) (hL : Lst W n₀ 3 1 v (2 * i) (prV l)) (hi : i ≤ 8192) (hn : n₀ ≤ W.heap.size) :
    Calls Tryd.prog 41 #[.int .i64 (x : Nat), .int .i64 (n : Nat), .pointer (some ⟨bl, 0, none⟩)] W (Pair1Ok bl n₀ i l x n v W) := by
  obtain ⟨i2, hi2, hz2, hs2, hb2⟩ := info_parts int_info
  have HB := Lib.hid hB
  have HL := Lib.hid hL
  obtain ⟨q, hq⟩ : ∃ q, 2 * i = q := ⟨_, rfl⟩
  have hq2 : 2 * (i + 1) = q + 2 := by omega
  unfold Pair1Ok
  rw [hq2]
  rw [hq] at HL
  obtain ⟨Av, capv, rfl, _, _⟩ := HL.out.look
  have c1 : W.cell? ⟨bl, 0, none⟩ = some (.slice Av q capv) := hB.cell 0
  have hql : q ≤ 16384 := by omega
  obtain ⟨D, hD⟩ : ∃ D, decide (i ≤ 8191) = D := ⟨_, rfl⟩
  have hdd : decide ((q : Int) + 2 ≤ 16384) = D := by rw [← hD]; exact decide_eq_decide.2 (by omega)
  have hdd2 : decide (((q + 2 : Nat) : Int) ≤ 16384) = D := by rw [← hD]; exact decide_eq_decide.2 (by omega)
  rw [hD]
  clear hD hi
  clear hB hL hq2
  have hq' := hq
  go_enter Tryd.func41, Tryd.ntmps41
  go_wp2_with (at_builtin; refine wpList_append_lst _ rfl (.tmp 6) (.tmp 9) _ rfl n₀ 3 i2 _ 1 8 Tryd.underlying22 hi2 hz2 hs2 hb2 rfl _ q (prV l) rfl (HL.out.alloc _) ⟨W.heap.size, 0, none⟩ 2 2 [.int .i64 (x : Nat), .int .i64 (n : Nat)] rfl rfl (World.news_of_block (heap_alloc_new _ _)) ?c2 ?c3 ?c4 ?c5 ?c6)
  case c2 => simp [Value.oneCell']
  case c3 => unfold maxLen; omega
  case c4 => omega
  case c5 => first | omega | (simp; omega)
  case c6 =>
    intro v2 w7 hown hgrow hat
    have hne : ∀ j, (Value.slice Av q capv).ownBlock = some j → j ≠ bl := HL.out.ne_bk HB.out (by decide)
    have hfr : Fr (Value.slice Av q capv).ownBlock.toList W w7 := ((Fr.refl _ _).alloc _).grown hgrow (fun j hj => .inl (by simp [hj]))
    have HB7 := Lib.hid (HB.out.fr hfr (fun hx => hne _ (by simpa using hx) rfl))
    have HF7 : Hid (Fr (bl :: (Value.slice Av q capv).ownBlock.toList) W w7) := hfr.mono (fun x hx => .inl (List.mem_cons_of_mem _ hx))
    have HL7 : Hid (Lst w7 n₀ 3 1 v2 (q + 2) (prV l ++ [.int .i64 (x : Nat), .int .i64 (n : Nat)])) := hown
    have cz := HB7.out.cell 0
    have fz := HB7.out.free 0
    obtain ⟨A2, cap2, rfl, _, _⟩ := HL7.out.look
    clear hown hgrow hat hfr hne c1
    go_wp2_with fail
    go_ret
    have hne2 : ∀ j, (Value.slice A2 (q + 2) cap2).ownBlock = some j → j ≠ bl := HL7.out.ne_bk HB7.out (by decide)
    refine ⟨by rfl, _, HB7.out.put 0 _, ?_, HF7.out.setCell (.inl (by simp)) _⟩
    have := HL7.out.far (p := ⟨bl, 0, none⟩) hne2 (.slice A2 (q + 2) cap2)
    unfold prV at this ⊢
    rw [List.map_append]
    exact this

theorem lst_same {W : World} {b b' : Nat} {e : TypeId} {size n : Nat} {v : Value} {xs ys : List Value} (h : Lst W b e size v n xs) (h' : Lst W b' e size v n ys) : xs = ys := by
  rcases h.2 with ⟨hv, hn⟩ | ⟨g, off, cap, cur, hv, _, hg, _, _, _, ht⟩
  · have h1 := h.1
    have h2 := h'.1
    rw [hn, Nat.zero_mul] at h1 h2
    rw [List.eq_nil_of_length_eq_zero h1, List.eq_nil_of_length_eq_zero h2]
  · rcases h'.2 with ⟨hv', _⟩ | ⟨g', off', cap', cur', hv', _, hg', _, _, _, ht'⟩
    · rw [hv] at hv'; cases hv'
    · rw [hv] at hv'
      injection hv' with e1 _ _
      injection e1 with e1
      injection e1 with e1 e2 _
      subst e1 e2
      rw [hg] at hg'
      injection hg' with hg'
      injection hg' with hg' _
      subst hg'
      rw [← ht, ← ht']

def PV (bl n₀ i : Nat) (W : World) : Prop := n₀ ≤ W.heap.size ∧ ∃ v l, Bk W bl 22 #[v] ∧ Lst W n₀ 3 1 v (2 * i) (prV l)
def PU (F : Nat → Bool) (size bl n₀ i : Nat) (W : World) : Prop := ∃ v, Bk W bl 22 #[v] ∧ Lst W n₀ 3 1 v (2 * i) (prV (prI F size i))

def PairsOk (F : Nat → Bool) (size : Nat) (w : World) (e : Ending) (w' : World) : Prop :=
  ∃ v, e = .returned v ∧ Lst w' w.heap.size 3 1 v (2 * (begs F size).length) (prV (prI F size (begs F size).length)) ∧ Fr [] w w'

set_option maxHeartbeats 800000 in
theorem pairs_any (g gb size : Nat) (F : Nat → Bool) (w : World) (hM : MapIs w g gb size F) (hO : On w) (hz : size ≤ 8192) :
    Calls Tryd.prog 25 #[.pointer (some ⟨g, 0, none⟩)] w (PairsOk F size w) := by
  obtain ⟨w1, hw1⟩ : ∃ w1, w1 = w.alloc (.cells #[.slice none 0 0] 22) := ⟨_, rfl⟩
  have hf1 : Fr [] w w1 := by rw [hw1]; exact (Fr.refl _ _).alloc _
  have hb1 : Bk w1 w.heap.size 22 #[.slice none 0 0] := by rw [hw1]; exact Bk.new _ _ _
  have hgl := hM.B.lt
  have HM := Lib.hid (hM.fr hf1 (by simp) (by simp))
  have HO := Lib.hid (hO.fr hf1 (by simp))
  have HB := Lib.hid hb1
  have HF1 := Lib.hid hf1
  have HW := Lib.hid hw1
  clear hM hO hb1 hf1 hw1
  go_enter Tryd.func25, Tryd.ntmps25
  go_upto_region 2 with fail
  rw [← HW.out]
  go_wp2_with fail
  refine (runs_any g w1).mono ?_
  rintro e w2 ⟨rfl, hw2⟩
  have hf2 : Fr [] w1 w2 := by rw [hw2]; exact (Fr.refl _ _).alloc _
  have hbx : Bk w2 w1.heap.size 24 #[.pointer (some ⟨g, 0, none⟩)] := by rw [hw2]; exact Bk.new _ _ _
  have hB2 := HB.out.fr hf2 (by simp)
  have hM2 := HM.out.fr hf2 (by simp) (by simp)
  have hO2 := HO.out.fr hf2 (by simp)
  have HF2 := Lib.hid (HF1.out.trans hf2 (by simp))
  have q1 := HB.out.lt
  have hrun : Calls Tryd.prog 38 #[.func (.func 41) #[] #[.pointer (some ⟨w.heap.size, 0, none⟩)], .pointer (some ⟨w1.heap.size, 0, none⟩)] w2
      fun e W' => e = .returned (.tuple #[]) ∧ Fr [w.heap.size] w2 W' ∧ ∃ v, Bk W' w.heap.size 22 #[v] ∧ Lst W' w2.heap.size 3 1 v (2 * (begs F size).length) (prV (prI F size (begs F size).length)) := by
    refine (runs1_anyV g gb w1.heap.size 41 size _ F w2 hM2 hO2 (hbx.cell 0) [w.heap.size] ?_ ?_ ?_ (enters_of Tryd.func41 (by kernel_rfl) rfl)
      (PV w.heap.size) (PU F size w.heap.size) (fun _ _ _ => False) ?_ ?_ ?_ ?_ ?_ ?_).mono ?_
    · intro x hx
      have := hB2.lt
      simp at hx
      omega
    · simp
      omega
    · simp
      omega
    · rintro n₀ i A B row ⟨h0, v, l, h1, h2⟩ hg hr
      exact ⟨Nat.le_trans h0 hg.size, v, l, bk_kept h1 hg hr, lst_kept h2 hg hr⟩
    · rintro n₀ i A B row ⟨v, h1, h2⟩ hg hr
      exact ⟨v, bk_kept h1 hg hr, lst_kept h2 hg hr⟩
    · rintro n₀ i A B row h1 hg hr
      exact h1
    · intro n₀ W hn hn2 hf
      exact ⟨hn2, .slice none 0 0, [], hB2.fr hf (by simp), Lst.nil _ _ _ _⟩
    · intro n₀ W hn hf
      exact ⟨.slice none 0 0, hB2.fr hf (by simp), Lst.nil _ _ _ _⟩
    · rintro n₀ x i W hn hi hx hfx ⟨h0, v, l, h1, h2⟩
      refine (pair1_any w.heap.size n₀ i v l x (endN F size x - x) W h1 h2 (by omega) h0).mono ?_
      rintro e W' ⟨rfl, v', h3, h4, hfr⟩
      refine ⟨_, rfl, ⟨Nat.le_trans h0 hfr.size, v', _, h3, h4⟩, hfr.kb (fun y hy => ?_), hfr.keeps (fun y hy => ?_), fun hbi hu => ⟨fun _ => ?_, fun h => ?_⟩⟩
      · simp only [List.mem_cons, Option.mem_toList] at hy ⊢
        rcases hy with e | e
        · exact .inl (.inl e)
        · exact .inr (h2.lt y e).1
      · simp only [List.mem_cons, Option.mem_toList] at hy
        rcases hy with e | e
        · exact ⟨_, _, e ▸ h1⟩
        · obtain ⟨cs, hcs⟩ := h2.bk e
          exact ⟨_, _, hcs⟩
      · obtain ⟨u, hu1, hu2⟩ := hu
        obtain rfl : v = u := bk_same h1 hu1
        have he := lst_same h2 hu2
        refine ⟨v', h3, ?_⟩
        rw [prI_next hbi]
        unfold prV at h4 he ⊢
        rw [List.map_append, ← he, ← List.map_append]
        exact h4
      · have hil := (List.getElem?_eq_some_iff.1 hbi).1
        have hbl := begs_le F size
        rw [decide_eq_true (show i ≤ 8191 by omega)] at h
        cases h
    · rintro e W' ⟨rfl, hkb, n₀, hn, ⟨-, v, h1, h2⟩ | ⟨i, hi, -, hF⟩⟩
      · exact ⟨rfl, hkb.fr, v, h1, h2.mono hn⟩
      · exact hF.elim
  have HR := Lib.hid hrun
  clear hw2 hf2 hbx hB2 hM2 hO2 hrun
  go_wp2_with fail
  refine (Calls.mono HR.out ?_)
  rintro e w3 ⟨rfl, hf3, v, hb3, hl3⟩
  have HF3 := Lib.hid (HF2.out.trans hf3 (fun x hx => .inr (by simp at hx; omega)))
  have HL3 := Lib.hid (hl3.mono (show w.heap.size ≤ w2.heap.size from HF2.out.size))
  obtain ⟨Av, capv, rfl, _, _⟩ := hl3.look
  have c1 : w3.cell? ⟨w.heap.size, 0, none⟩ = some (.slice Av (2 * (begs F size).length) capv) := hb3.cell 0
  clear hf3 hb3 hl3
  go_wp2_with fail
  go_ret
  exact ⟨_, rfl, HL3.out, HF3.out⟩
end Go.Proofs.YtheiacfdbhjbmaaDoor
