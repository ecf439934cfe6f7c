/-
  Roots, the document's answer in memory: Set, Push, Pop, Frames, lists, All, Lay.
-/
import Derived.Test.YtdjemkgnhohcdaaRtB1
import Derived.Test.YtdjemkgnhohcdaaRtM3
namespace Go.Proofs.Ytdjemkgnhohcdaa
open Go.RowKit
set_option linter.unusedVariables false

theorem flat2_set {α β : Type} (f : α → β) (f' : α → β) : ∀ (l : List α) (i : Nat) (t : α), i < l.length → (l.set i t).flatMap (fun t => [f t, f' t]) = ((l.flatMap (fun t => [f t, f' t])).set (i * 2 + 1) (f' t)).set (i * 2) (f t)
  | [], i, t, h => by simp at h
  | a :: l, 0, t, h => by simp
  | a :: l, i + 1, t, h => by
    have ih := flat2_set f f' l i t (by simpa using h)
    have e : ∀ (l : List α) (a : α), (a :: l).flatMap (fun t => [f t, f' t]) = f a :: f' a :: l.flatMap (fun t => [f t, f' t]) := fun l a => by simp
    have e1 : (i + 1) * 2 = i * 2 + 1 + 1 := by omega
    rw [List.set_cons_succ, e, e, e1, ih]
    simp
theorem set_self {α : Type} : ∀ {l : List α} {i : Nat} {x : α}, l[i]? = some x → l.set i x = l
  | [], i, x, h => by simp at h
  | a :: l, 0, x, h => by simp at h; simp [h]
  | a :: l, i + 1, x, h => by simp at h; simp [set_self h]
theorem Dr.M_set {R : Dr} {i : Nat} (t : Dt) (hi : i < R.ts.length) : Dr.M { R with ts := R.ts.set i t } = (R.M.set (i * 2 + 3) (t.v2, begL t.ls)).set (i * 2 + 2) (t.v1, t.ls.flatten) := by
  rw [Dr.M_eq, Dr.M_eq]
  show _ :: _ :: (R.ts.set i t).flatMap _ = _
  rw [flat2_set (fun t : Dt => (t.v1, t.ls.flatten)) (fun t : Dt => (t.v2, begL t.ls)) R.ts i t hi]
  rfl
theorem DT.turnT {b0 : Nat} {w w1 w2 w3 : World} {g : Nat} {R : Dr} {k : Nat} {t : Dt} (t' : Dt) (h : DT b0 w g R) (ht : R.ts[k]? = some t)
    (hf1 : Fr t.v2.ownBlock.toList w w1) (hL1 : Lst w1 b0 3 1 t'.v2 t'.ls.length (iV (begL t'.ls))) (hv1 : ∀ x, t'.v2.ownBlock = some x → t.v2.ownBlock = some x ∨ w.heap.size ≤ x)
    (hf2 : Fr t.v1.ownBlock.toList w1 w2) (hL2 : Lst w2 b0 3 1 t'.v1 t'.ls.flatten.length (iV t'.ls.flatten)) (hv2 : ∀ x, t'.v1.ownBlock = some x → t.v1.ownBlock = some x ∨ w1.heap.size ≤ x)
    (hf3 : Fr R.vt.ownBlock.toList w2 w3) (hTh : Lst w2 b0 73 2 R.vt R.ts.length (R.ts.flatMap (fun t => [t.v1, t.v2])) → Lst w3 b0 73 2 R.vt R.ts.length ((R.ts.set k t').flatMap (fun t => [t.v1, t.v2])))
    (hroom : sumL t'.ls ≤ R.S) (hone : ∀ l ∈ t'.ls, 1 ≤ l.length) (r : Value) :
    DO b0 g { R.abs with ths := R.abs.ths.set k t'.ls } (R.foot g) r w (.returned r) w3 := by
  have hk := (List.getElem?_eq_some_iff.1 ht).1
  obtain ⟨m1, m2⟩ := Dr.Mt ht
  have hin1 : ∀ x, t.v1.ownBlock = some x → x ∈ footM R.M := fun x hx => footM_at m1 hx
  have hin2 : ∀ x, t.v2.ownBlock = some x → x ∈ footM R.M := fun x hx => footM_at m2 hx
  have hbl : (begL t'.ls).length = t'.ls.length := by simp [begL]
  obtain ⟨p1, q1⟩ := h.P.set (v' := t'.v2) (l' := begL t'.ls) m2 hf1 (by rw [hbl]; exact hL1) hv1
  have m1' : (R.M.set (k * 2 + 3) (t'.v2, begL t'.ls))[k * 2 + 2]? = some (t.v1, t.ls.flatten) := by
    rw [List.getElem?_set_ne (by omega)]
    exact m1
  obtain ⟨p2, q2⟩ := p1.set (v' := t'.v1) (l' := t'.ls.flatten) m1' hf2 hL2 hv2
  rw [← Dr.M_set t' hk] at p2 q2
  have hB1 := h.B.fr hf1 (fun hx => (h.nog (hin2 g (by simpa using hx))).1 rfl)
  have hT1 := h.Th.fr hf1 (fun k hk hx => (h.nog (hin2 k (by simpa using hx))).2 (by simp [hk]))
  have hB2 := hB1.fr hf2 (fun hx => (h.nog (hin1 g (by simpa using hx))).1 rfl)
  have hT2 := hT1.fr hf2 (fun k hk hx => (h.nog (hin1 k (by simpa using hx))).2 (by simp [hk]))
  have hB3 := hB2.fr hf3 (fun hx => hT2.ne_bk hB2 (by decide) g (by simpa using hx) rfl)
  have p3 := p2.fr hf3 (fun x hx hm => by
    obtain ⟨i, p, hi, hp⟩ := footM_of hm
    exact (p2.at_ i p hi).ne_lst hT2 (by decide) x hp hx)
  have hT3 := hTh hT2
  have hset : (R.ts.set k t').length = R.ts.length := by simp
  have hmem : ∀ u ∈ R.ts.set k t', u ∈ R.ts ∨ u = t' := fun u hu => List.mem_or_eq_of_mem_set hu
  refine ⟨rfl, Dr.foot { R with ts := R.ts.set k t' } g, ⟨{ R with ts := R.ts.set k t' }, ⟨hB3, by rw [hset]; exact hT3, p3, h.gb, ⟨by show (R.ts.set k t').length ≤ 8; rw [hset]; exact h.ok.1, h.ok.2.1, h.ok.2.2⟩, fun u hu => ?_, fun u hu => ?_, h.nn⟩, ?_, rfl⟩, ?_, fun x hx => ?_⟩
  · rcases hmem u hu with e | e
    · exact h.room u e
    · rw [e]; exact hroom
  · rcases hmem u hu with e | e
    · exact h.one u e
    · rw [e]; exact hone
  · show RA.mk R.S ((R.ts.set k t').map Dt.ls) R.hs R.q = _
    rw [List.map_set]
    rfl
  · have s1 : Fr (R.foot g) w w1 := hf1.mono (fun x hx => .inl (by unfold Dr.foot; rw [List.mem_cons, List.mem_append]; exact .inr (.inr (hin2 x (by simpa using hx)))))
    have s2 : Fr (R.foot g) w1 w2 := hf2.mono (fun x hx => .inl (by unfold Dr.foot; rw [List.mem_cons, List.mem_append]; exact .inr (.inr (hin1 x (by simpa using hx)))))
    have s3 : Fr (R.foot g) w2 w3 := hf3.mono (fun x hx => .inl (by unfold Dr.foot; rw [List.mem_cons, List.mem_append]; exact .inr (.inl hx)))
    exact (s1.trans s2 (fun x hx => .inl hx)).trans s3 (fun x hx => .inl hx)
  · unfold Dr.foot at hx ⊢
    rw [List.mem_cons, List.mem_append] at hx ⊢
    rcases hx with rfl | hx | hx
    · exact .inl (.inl rfl)
    · exact .inl (.inr (.inl hx))
    · rcases q2 x hx with e | e
      · rcases q1 x e with e | e
        · exact .inl (.inr (.inr e))
        · exact .inr e
      · exact .inr (Nat.le_trans hf1.size e)
end Go.Proofs.Ytdjemkgnhohcdaa
namespace Go.Proofs.Ytdjemkgnhohcdaa
open Go.RowKit
set_option linter.unusedVariables false

theorem DO.pre {b0 g : Nat} {a' : RA} {F : List Nat} {r : Value} {w w1 w2 : World} {e : Ending} (hf : Fr [] w w1) (h : DO b0 g a' F r w1 e w2) : DO b0 g a' F r w e w2 := by
  obtain ⟨h1, F', h2, h3, h4⟩ := h
  refine ⟨h1, F', h2, (hf.mono (by simp)).trans h3 (fun x hx => .inl hx), fun x hx => ?_⟩
  rcases h4 x hx with h | h
  · exact .inl h
  · exact .inr (Nat.le_trans hf.size h)
theorem flatten_set (C : List (List Int)) (T : List Int) (j : Nat) (y : Int) : (C ++ [T]).flatten.set (sumL C + j) y = (C ++ [T.set j y]).flatten := by
  rw [List.flatten_append, List.flatten_append, ← flatten_len C, List.set_append_right _ _ (by omega)]
  simp
theorem begL_lens {l m : List (List Int)} (h : l.map List.length = m.map List.length) : begL l = begL m := by
  have hl : l.length = m.length := by have := congrArg List.length h; simpa using this
  unfold begL
  rw [hl]
  apply List.map_congr_left
  intro k _
  unfold sumL
  rw [List.map_take, List.map_take, h]
/-- A thread's slots turned where they lie. -/
theorem DT.slotsT {b0 : Nat} {w w2 : World} {g : Nat} {R : Dr} {k : Nat} {t : Dt} (ls' : List (List Int)) (h : DT b0 w g R) (ht : R.ts[k]? = some t) (hl : ls'.map List.length = t.ls.map List.length)
    (hf2 : Fr t.v1.ownBlock.toList w w2) (hL2 : Lst w2 b0 3 1 t.v1 t.ls.flatten.length (iV ls'.flatten)) (r : Value) :
    DO b0 g { R.abs with ths := R.abs.ths.set k ls' } (R.foot g) r w (.returned r) w2 := by
  have hlen : ls'.length = t.ls.length := by have := congrArg List.length hl; simpa using this
  have hsum : sumL ls' = sumL t.ls := by unfold sumL; rw [hl]
  have hk := (List.getElem?_eq_some_iff.1 ht).1
  refine h.turnT ⟨t.v1, t.v2, ls'⟩ ht (Fr.refl _ _) ?_ (fun x hx => .inl hx) hf2 ?_ (fun x hx => .inl hx) (Fr.refl _ _) (fun hT => ?_) ?_ (fun l hlm => ?_) r
  · show Lst w b0 3 1 t.v2 ls'.length (iV (begL ls'))
    rw [begL_lens hl, hlen]
    exact h.begs ht
  · show Lst w2 b0 3 1 t.v1 ls'.flatten.length (iV ls'.flatten)
    rw [flatten_len, hsum, ← flatten_len]
    exact hL2
  · have e := flat2_set Dt.v1 Dt.v2 R.ts k ⟨t.v1, t.v2, ls'⟩ hk
    rw [e]
    obtain ⟨a1, a2⟩ := flat2_at Dt.v1 Dt.v2 R.ts k t ht
    rw [set_self (x := t.v2) a2, set_self (x := t.v1) a1]
    exact hT
  · show sumL ls' ≤ R.S
    rw [hsum]
    exact h.room t (List.mem_of_getElem? ht)
  · have hlm : l ∈ ls' := hlm
    have h1 : l.length ∈ ls'.map List.length := List.mem_map_of_mem hlm
    rw [hl] at h1
    obtain ⟨l2, h2, h3⟩ := List.mem_map.1 h1
    have := h.one t (List.mem_of_getElem? ht) l2 h2
    omega

set_option maxRecDepth 100000 in
set_option maxHeartbeats 1600000 in
theorem dset_any {b0 : Nat} {w : World} {g : Nat} {a : RA} {F : List Nat} (h : DS b0 w g a F) (i s x : Int) (hs : -9223372036854775808 ≤ s ∧ s ≤ 9223372036854775807) :
    Calls Try.prog 46 #[.pointer (some ⟨g, 0, none⟩), .int .i64 i, .int .i64 s, .int .i64 x] w (DO b0 g (setA a i s x).1 F (.int .i64 (setA a i s x).2) w) := by
  have HD := Lib.hid h
  obtain ⟨R, hR, rfl, rfl⟩ := h
  have HP := Lib.hid (dplace_any hR i s hs)
  by_cases h0 : topE R.abs i s = 0
  · obtain ⟨y, hy⟩ : ∃ y, max x 0 = y := ⟨_, rfl⟩
    have HA : Hid (∀ Z : World, Calls Try.prog 59 #[.int .i64 x] Z fun e w' => e = .returned (.int .i64 y) ∧ Z = w') := fun Z => by have := address_any x Z; rw [hy] at this; exact this
    have hin : inT R.abs i = true := by
      cases h : inT R.abs i with
      | true => rfl
      | false => rw [show topE R.abs i s = 51 by unfold topE; rw [if_pos h]] at h0; omega
    have hnil : thA R.abs i ≠ [] := fun e => by
      rw [show topE R.abs i s = 54 by unfold topE; rw [if_neg (by rw [hin]; simp), if_pos e]] at h0
      omega
    obtain ⟨k, t, rfl, ht, hth⟩ := inT_dr hin
    obtain ⟨C, T, hCT⟩ := last_split (l := t.ls) (by rw [← hth]; exact hnil)
    have hsz : 0 ≤ s ∧ s < (T.length : Int) := by
      unfold topE at h0
      rw [if_neg (by rw [hin]; simp), if_neg hnil, hth, hCT] at h0
      simp at h0
      omega
    obtain ⟨j, rfl⟩ := Int.eq_ofNat_of_zero_le hsz.1
    have hj : j < T.length := by omega
    have e1 : placeA R.abs (k : Int) (j : Int) = (((sumL C : Nat) : Int) + (j : Int), 0) := by
      unfold placeA
      rw [if_pos h0, hth, hCT]
      simp
    have e2 : setA R.abs (k : Int) (j : Int) x = ({ R.abs with ths := R.abs.ths.set k (C ++ [T.set j y]) }, 0) := by
      unfold setA
      rw [if_pos h0, hth, hCT, hy]
      simp
    rw [e1] at HP
    rw [e2]
    have hfs : (C ++ [T.set j y]).flatten = t.ls.flatten.set (sumL C + j) y := by rw [hCT, flatten_set]
    obtain ⟨ls', hls'⟩ : ∃ ls', C ++ [T.set j y] = ls' := ⟨_, rfl⟩
    have hln : ls'.map List.length = t.ls.map List.length := by rw [← hls', hCT]; simp
    have hm3 : sumL C + j < t.ls.flatten.length := by rw [flatten_len, hCT, sumL_snoc]; omega
    rw [hls'] at hfs ⊢
    obtain ⟨m, hm⟩ : ∃ m, sumL C + j = m := ⟨_, rfl⟩
    have hm2 : ((sumL C : Nat) : Int) + (j : Int) = (m : Int) := by omega
    rw [hm2] at HP
    rw [hm] at hfs hm3
    have HR := Lib.hid hR
    have HT := Lib.hid ht
    have HX := Lib.hid hfs
    have HLN := Lib.hid hln
    have hkl := (List.getElem?_eq_some_iff.1 ht).1
    have HY := Lib.hid hy
    clear hR ht hfs hln h0 hin hnil hth hCT hsz hj e1 e2 hm hm2 hls' hy
    go_enter Try.func46, Try.ntmps46
    go_wp2_with fail
    refine (Calls.mono HP.out ?_)
    rintro e w' ⟨rfl, hf⟩
    have HF := Lib.hid hf
    have hR2 := HR.out.nil hf
    obtain ⟨gt, off, cap, hv, hgl, ct1, ct2, _⟩ := hR2.t_at HT.out
    have c0 : w'.cell? ⟨g, 0, none⟩ = some R.vt := hR2.B.cell 0
    have hgg := hR2.B.lt
    have hLs := hR2.slots HT.out
    obtain ⟨sb, so, c1, hv1, _, hsb, _, _, _, hfz, hc⟩ := hLs.form (by omega)
    have hLp := hLs
    rw [hv1] at hLp
    have hLp := hLp.put (j := m) (.int .i64 y)
    have e : (iV t.ls.flatten).set m (.int .i64 y) = iV ls'.flatten := by
      rw [HX.out]
      unfold iV
      rw [List.map_set]
    rw [e, ← hv1] at hLp
    have hfp : Fr t.v1.ownBlock.toList w' (w'.setCell ⟨sb, so + m, none⟩ (.int .i64 y)) := (Fr.refl _ _).setCell (by rw [hv1]; simp [Value.ownBlock]) _
    have HE : Hid (DO b0 g { R.abs with ths := R.abs.ths.set k ls' } (R.foot g) (.int .i64 0) w (.returned (.int .i64 0)) (w'.setCell ⟨sb, so + m, none⟩ (.int .i64 y))) :=
      DO.pre hf (hR2.slotsT ls' HT.out HLN.out hfp hLp _)
    have cx : ∃ z, w'.cell? ⟨sb, so + m, none⟩ = some (.int .i64 z) := by
      obtain ⟨z, hz⟩ : ∃ z, t.ls.flatten[m]? = some z := ⟨_, List.getElem?_eq_getElem hm3⟩
      exact ⟨z, hc m _ (iV_at hz)⟩
    obtain ⟨z, cx⟩ := cx
    have hfm := hfz (so + m)
    rw [hv1] at ct1
    rw [hv] at c0
    obtain ⟨L, hL⟩ : ∃ L, t.ls.flatten.length = L := ⟨_, rfl⟩
    obtain ⟨n, hn⟩ : ∃ n, R.ts.length = n := ⟨_, rfl⟩
    rw [hL] at ct1 hm3
    rw [hn] at c0 hkl
    have i0 : (0 : Int) ≤ (k : Int) := by omega
    have i1 : (k : Int) < (n : Int) := by omega
    have i2 : (0 : Int) ≤ (m : Int) := by omega
    have i3 : (m : Int) < (L : Int) := by omega
    clear hR2 hf hc hv hv1 hL hn hLs hLp hfp e hfz
    go_upto_region 3 with fail
    go_region_with (go_at_call 59; refine (HA.out _).mono ?_; rintro e w' ⟨rfl, rfl⟩)
    all_goals
      go_wp2_with fail
      go_ret
      first
        | exact HE.out
        | exact HE.out.drew
  · have e1 : placeA R.abs i s = (0, topE R.abs i s) := by unfold placeA; rw [if_neg h0]
    have e2 : setA R.abs i s x = (R.abs, topE R.abs i s) := by unfold setA; rw [if_neg h0]
    rw [e1] at HP
    rw [e2]
    obtain ⟨v, hv⟩ : ∃ v, topE R.abs i s = v := ⟨_, rfl⟩
    rw [hv] at h0 HP ⊢
    have d1 : (v == 0) = false := by simpa using h0
    clear hR e1 e2 hv
    go_enter Try.func46, Try.ntmps46
    go_wp2_with fail
    refine (Calls.mono HP.out ?_)
    rintro e w' ⟨rfl, hf⟩
    have HF := Lib.hid hf
    clear hf
    go_wp2_with fail
    go_ret
    exact DO.same HD.out HF.out
end Go.Proofs.Ytdjemkgnhohcdaa
namespace Go.Proofs.Ytdjemkgnhohcdaa
open Go.RowKit
set_option linter.unusedVariables false

section
variable {w w' : World} {b0 : Nat} {M : List (Value × List Int)}
/-- Two of them turned. -/
theorem Pk.set2 {i j : Nat} {p q : Value × List Int} {u v : Value} {l m : List Int} (h : Pk w b0 M) (hij : i ≠ j) (hi : M[i]? = some p) (hj : M[j]? = some q) (hf : Fr (p.1.ownBlock.toList ++ q.1.ownBlock.toList) w w')
    (hL1 : Lst w' b0 3 1 u l.length (iV l)) (hL2 : Lst w' b0 3 1 v m.length (iV m))
    (hu : ∀ k, u.ownBlock = some k → p.1.ownBlock = some k ∨ w.heap.size ≤ k) (hv : ∀ k, v.ownBlock = some k → q.1.ownBlock = some k ∨ w.heap.size ≤ k) (huv : ∀ k, u.ownBlock = some k → v.ownBlock ≠ some k) :
    Pk w' b0 ((M.set j (v, m)).set i (u, l)) ∧ ∀ k ∈ footM ((M.set j (v, m)).set i (u, l)), k ∈ footM M ∨ w.heap.size ≤ k := by
  have h1 : i < M.length := (List.getElem?_eq_some_iff.1 hi).1
  have h2 : j < M.length := (List.getElem?_eq_some_iff.1 hj).1
  have key : ∀ (n : Nat) (x : Value × List Int), ((M.set j (v, m)).set i (u, l))[n]? = some x → (n = i ∧ x = (u, l)) ∨ (n = j ∧ x = (v, m)) ∨ (n ≠ i ∧ n ≠ j ∧ M[n]? = some x) := fun n x hx => by
    by_cases e : n = i
    · subst e
      rw [List.getElem?_set_self (by simpa using h1)] at hx
      injection hx with hx
      exact .inl ⟨rfl, hx.symm⟩
    · rw [List.getElem?_set_ne (Ne.symm e)] at hx
      by_cases e2 : n = j
      · subst e2
        rw [List.getElem?_set_self h2] at hx
        injection hx with hx
        exact .inr (.inl ⟨rfl, hx.symm⟩)
      · rw [List.getElem?_set_ne (Ne.symm e2)] at hx
        exact .inr (.inr ⟨e, e2, hx⟩)
  have old : ∀ (n : Nat) (x : Value × List Int), ((M.set j (v, m)).set i (u, l))[n]? = some x → ∃ y, M[n]? = some y ∧ ∀ k, x.1.ownBlock = some k → y.1.ownBlock = some k ∨ w.heap.size ≤ k := fun n x hx => by
    rcases key n x hx with ⟨rfl, rfl⟩ | ⟨rfl, rfl⟩ | ⟨_, _, e⟩
    · exact ⟨p, hi, hu⟩
    · exact ⟨q, hj, hv⟩
    · exact ⟨x, e, fun k hk => .inl hk⟩
  have un : ∀ (n n' : Nat) (x x' : Value × List Int) (k : Nat), n ≠ n' → M[n]? = some x → ((M.set j (v, m)).set i (u, l))[n']? = some x' → x.1.ownBlock = some k → x'.1.ownBlock ≠ some k := fun n n' x x' k hne hx hx' hk hk' => by
    obtain ⟨y, hy, hyo⟩ := old n' x' hx'
    rcases hyo k hk' with e | e
    · exact h.apart n n' x y k hne hx hy hk e
    · have := ((h.at_ n x hx).lt k hk).2
      omega
  refine ⟨⟨fun n x hx => ?_, fun n n' x x' k hne hx hx' hk hk' => ?_⟩, fun k hk => ?_⟩
  · rcases key n x hx with ⟨rfl, rfl⟩ | ⟨rfl, rfl⟩ | ⟨e1, e2, e⟩
    · exact hL1
    · exact hL2
    · refine (h.at_ n x e).fr hf (fun k hk hm => ?_)
      rcases List.mem_append.1 hm with hm | hm
      · exact h.apart n i x p k e1 e hi hk (by simpa using hm)
      · exact h.apart n j x q k e2 e hj hk (by simpa using hm)
  · have hX := hx
    have hX' := hx'
    rcases key n x hx with ⟨rfl, rfl⟩ | ⟨rfl, rfl⟩ | ⟨_, _, e⟩
    · rcases key n' x' hx' with ⟨rfl, rfl⟩ | ⟨rfl, rfl⟩ | ⟨_, _, e'⟩
      · exact hne rfl
      · exact huv k hk hk'
      · exact un n' n x' _ k (Ne.symm hne) e' hX hk' hk
    · rcases key n' x' hx' with ⟨rfl, rfl⟩ | ⟨rfl, rfl⟩ | ⟨_, _, e'⟩
      · exact huv k hk' hk
      · exact hne rfl
      · exact un n' n x' _ k (Ne.symm hne) e' hX hk' hk
    · exact un n n' x x' k hne e hX' hk hk'
  · obtain ⟨n, x, hx, hk⟩ := footM_of hk
    obtain ⟨y, hy, hyo⟩ := old n x hx
    rcases hyo k hk with e | e
    · exact .inl (footM_at hy e)
    · exact .inr e
end
theorem DT.turn2 {b0 : Nat} {w w2 w3 : World} {g : Nat} {R : Dr} {k : Nat} {t : Dt} (t' : Dt) (h : DT b0 w g R) (ht : R.ts[k]? = some t) (hf : Fr (t.v1.ownBlock.toList ++ t.v2.ownBlock.toList) w w2)
    (hL1 : Lst w2 b0 3 1 t'.v2 t'.ls.length (iV (begL t'.ls))) (hv1 : ∀ x, t'.v2.ownBlock = some x → t.v2.ownBlock = some x ∨ w.heap.size ≤ x)
    (hL2 : Lst w2 b0 3 1 t'.v1 t'.ls.flatten.length (iV t'.ls.flatten)) (hv2 : ∀ x, t'.v1.ownBlock = some x → t.v1.ownBlock = some x ∨ w.heap.size ≤ x) (hvv : ∀ x, t'.v1.ownBlock = some x → t'.v2.ownBlock ≠ some x)
    (hf3 : Fr R.vt.ownBlock.toList w2 w3) (hTh : Lst w2 b0 73 2 R.vt R.ts.length (R.ts.flatMap (fun t => [t.v1, t.v2])) → Lst w3 b0 73 2 R.vt R.ts.length ((R.ts.set k t').flatMap (fun t => [t.v1, t.v2])))
    (hroom : sumL t'.ls ≤ R.S) (hone : ∀ l ∈ t'.ls, 1 ≤ l.length) (r : Value) :
    DO b0 g { R.abs with ths := R.abs.ths.set k t'.ls } (R.foot g) r w (.returned r) w3 := by
  have hk := (List.getElem?_eq_some_iff.1 ht).1
  obtain ⟨m1, m2⟩ := Dr.Mt ht
  have hin : ∀ x, x ∈ t.v1.ownBlock.toList ++ t.v2.ownBlock.toList → x ∈ footM R.M := fun x hx => by
    rcases List.mem_append.1 hx with hx | hx
    · exact footM_at m1 (by simpa using hx)
    · exact footM_at m2 (by simpa using hx)
  have hbl : (begL t'.ls).length = t'.ls.length := by simp [begL]
  obtain ⟨p2, q2⟩ := h.P.set2 (u := t'.v1) (l := t'.ls.flatten) (v := t'.v2) (m := begL t'.ls) (by omega) m1 m2 hf hL2 (by rw [hbl]; exact hL1) hv2 hv1 hvv
  rw [← Dr.M_set t' hk] at p2 q2
  have hB2 := h.B.fr hf (fun hx => (h.nog (hin g hx)).1 rfl)
  have hT2 := h.Th.fr hf (fun k hk hx => (h.nog (hin k hx)).2 (by simp [hk]))
  have hB3 := hB2.fr hf3 (fun hx => hT2.ne_bk hB2 (by decide) g (by simpa using hx) rfl)
  have p3 := p2.fr hf3 (fun x hx hm => by
    obtain ⟨i, p, hi, hp⟩ := footM_of hm
    exact (p2.at_ i p hi).ne_lst hT2 (by decide) x hp hx)
  have hT3 := hTh hT2
  have hset : (R.ts.set k t').length = R.ts.length := by simp
  have hmem : ∀ u ∈ R.ts.set k t', u ∈ R.ts ∨ u = t' := fun u hu => List.mem_or_eq_of_mem_set hu
  refine ⟨rfl, Dr.foot { R with ts := R.ts.set k t' } g, ⟨{ R with ts := R.ts.set k t' }, ⟨hB3, by rw [hset]; exact hT3, p3, h.gb, ⟨by show (R.ts.set k t').length ≤ 8; rw [hset]; exact h.ok.1, h.ok.2.1, h.ok.2.2⟩, fun u hu => ?_, fun u hu => ?_, h.nn⟩, ?_, rfl⟩, ?_, fun x hx => ?_⟩
  · rcases hmem u hu with e | e
    · exact h.room u e
    · rw [e]; exact hroom
  · rcases hmem u hu with e | e
    · exact h.one u e
    · rw [e]; exact hone
  · show RA.mk R.S ((R.ts.set k t').map Dt.ls) R.hs R.q = _
    rw [List.map_set]
    rfl
  · have s1 : Fr (R.foot g) w w2 := hf.mono (fun x hx => .inl (by unfold Dr.foot; rw [List.mem_cons, List.mem_append]; exact .inr (.inr (hin x hx))))
    have s3 : Fr (R.foot g) w2 w3 := hf3.mono (fun x hx => .inl (by unfold Dr.foot; rw [List.mem_cons, List.mem_append]; exact .inr (.inl hx)))
    exact s1.trans s3 (fun x hx => .inl hx)
  · unfold Dr.foot at hx ⊢
    rw [List.mem_cons, List.mem_append] at hx ⊢
    rcases hx with rfl | hx | hx
    · exact .inl (.inl rfl)
    · exact .inl (.inr (.inl hx))
    · rcases q2 x hx with e | e
      · exact .inl (.inr (.inr e))
      · exact .inr e
/-- The row of a thread stored anew. -/
theorem Th.put2 {w : World} {b0 : Nat} {ts : List Dt} {k gt off cap n : Nat} (t' : Dt) (hk : k < ts.length) (h : Lst w b0 73 2 (.slice (some ⟨gt, off, none⟩) n cap) n (ts.flatMap (fun t => [t.v1, t.v2]))) :
    Lst ((w.setCell ⟨gt, off + k * 2, none⟩ t'.v1).setCell ⟨gt, off + k * 2 + 1, none⟩ t'.v2) b0 73 2 (.slice (some ⟨gt, off, none⟩) n cap) n ((ts.set k t').flatMap (fun t => [t.v1, t.v2])) := by
  have h1 := (h.put (j := k * 2) t'.v1).put (j := k * 2 + 1) t'.v2
  rw [flat2_set Dt.v1 Dt.v2 ts k t' hk]
  rw [List.set_comm _ _ (by omega)]
  exact h1

/-- While Push goes on: the thread's copy lies at lb; its beginnings have one more, its slots i zeros more. -/
def PuS (b0 lb : Nat) (t : Dt) (w : World) (bs : List Int) (L : Nat) (i : Nat) (wr : World) : Prop :=
  ∃ v1 v2, Bk wr lb 73 #[v1, v2] ∧ Lst wr b0 3 1 v2 bs.length (iV bs) ∧ Lst wr b0 3 1 v1 (L + i) (iV (t.ls.flatten ++ List.replicate i 0)) ∧ Fr (t.v1.ownBlock.toList ++ t.v2.ownBlock.toList) w wr ∧
    (∀ x, v2.ownBlock = some x → t.v2.ownBlock = some x ∨ w.heap.size ≤ x) ∧ (∀ x, v1.ownBlock = some x → t.v1.ownBlock = some x ∨ w.heap.size ≤ x) ∧ ∀ x, v1.ownBlock = some x → v2.ownBlock ≠ some x
theorem own_or {u v : Value} {z n : Nat} (hz : n ≤ z) (h : v.ownBlock = u.ownBlock ∨ v.ownBlock = some z) : ∀ k, v.ownBlock = some k → u.ownBlock = some k ∨ n ≤ k := fun k hk => by
  rcases h with e | e
  · exact .inl (by rw [← e]; exact hk)
  · rw [e] at hk
    injection hk with hk
    exact .inr (by omega)
/-- One zero more. -/
theorem PuS.more {b0 lb L i : Nat} {t : Dt} {w wr w2 : World} {bs : List Int} {v1 v2 v1' : Value} (hlb : w.heap.size ≤ lb) (hB : Bk wr lb 73 #[v1, v2]) (hL2 : Lst wr b0 3 1 v2 bs.length (iV bs)) (hL1 : Lst wr b0 3 1 v1 (L + i) (iV (t.ls.flatten ++ List.replicate i 0)))
    (hf : Fr (t.v1.ownBlock.toList ++ t.v2.ownBlock.toList) w wr) (o2 : ∀ x, v2.ownBlock = some x → t.v2.ownBlock = some x ∨ w.heap.size ≤ x) (o1 : ∀ x, v1.ownBlock = some x → t.v1.ownBlock = some x ∨ w.heap.size ≤ x) (o3 : ∀ x, v1.ownBlock = some x → v2.ownBlock ≠ some x)
    (hf2 : Fr v1.ownBlock.toList wr w2) (hL' : Lst w2 b0 3 1 v1' (L + i + 1) (iV (t.ls.flatten ++ List.replicate i 0) ++ [.int .i64 0])) (hat : ∀ x, v1'.ownBlock = some x → v1.ownBlock = some x ∨ wr.heap.size ≤ x) :
    Bk w2 lb 73 #[v1, v2] ∧ PuS b0 lb t w bs L (i + 1) (w2.setCell ⟨lb, 0, none⟩ v1') := by
  have hB2 := hB.fr hf2 (fun hx => hL1.ne_bk hB (by decide) lb (by simpa using hx) rfl)
  have hL22 := hL2.fr hf2 (fun k hk hx => o3 k (by simpa using hx) hk)
  have hfn : Fr (t.v1.ownBlock.toList ++ t.v2.ownBlock.toList) w w2 := hf.trans hf2 (fun x hx => by
    rcases o1 x (by simpa using hx) with e | e
    · exact .inl (by simp [e])
    · exact .inr e)
  refine ⟨hB2, v1', v2, hB2.put 0 v1', hL22.far (fun j hj => hL22.ne_bk hB2 (by decide) j hj) _, ?_, hfn.setCell (.inr hlb) _, o2, fun x hx => ?_, fun x hx => ?_⟩
  · have := hL'.far (p := ⟨lb, 0, none⟩) (fun j hj => hL'.ne_bk hB2 (by decide) j hj) v1'
    rw [List.replicate_succ', ← List.append_assoc]
    unfold iV at this ⊢
    rw [List.map_append (l₂ := [0])]
    exact this
  · rcases hat x hx with e | e
    · exact o1 x e
    · exact .inr (Nat.le_trans hf.size e)
  · rcases hat x hx with e | e
    · exact o3 x e
    · intro h
      have := (hL2.lt x h).2
      omega
end Go.Proofs.Ytdjemkgnhohcdaa
namespace Go.Proofs.Ytdjemkgnhohcdaa
open Go.RowKit
set_option linter.unusedVariables false

/-- The beginning laid. -/
theorem PuS.start {b0 lb : Nat} {g k : Nat} {R : Dr} {t : Dt} {w Z w1 : World} {v' : Value} (h : DT b0 w g R) (ht : R.ts[k]? = some t) (hlb : w.heap.size ≤ lb) (hB : Bk Z lb 73 #[t.v1, t.v2]) (hf : Fr [] w Z)
    (hf2 : Fr t.v2.ownBlock.toList Z w1) (hL' : Lst w1 b0 3 1 v' (t.ls.length + 1) (iV (begL t.ls) ++ [.int .i64 (sumL t.ls : Nat)])) (hat : ∀ x, v'.ownBlock = some x → t.v2.ownBlock = some x ∨ Z.heap.size ≤ x) :
    Bk w1 lb 73 #[t.v1, t.v2] ∧ PuS b0 lb t w (begL t.ls ++ [((sumL t.ls : Nat) : Int)]) t.ls.flatten.length 0 (w1.setCell ⟨lb, 1, none⟩ v') := by
  have hL1 := (h.slots ht).fr hf (by simp)
  have hL2 := (h.begs ht).fr hf (by simp)
  obtain ⟨m1, m2⟩ := Dr.Mt ht
  have o3 : ∀ x, t.v1.ownBlock = some x → t.v2.ownBlock ≠ some x := fun x hx => h.P.apart _ _ _ _ x (by omega) m1 m2 hx
  have hB2 := hB.fr hf2 (fun hx => hL2.ne_bk hB (by decide) lb (by simpa using hx) rfl)
  have hL12 := hL1.fr hf2 (fun k hk hx => o3 k hk (by simpa using hx))
  have hbl : (begL t.ls).length = t.ls.length := by simp [begL]
  refine ⟨hB2, t.v1, v', hB2.put 1 v', ?_, ?_, ?_, fun x hx => ?_, fun x hx => .inl hx, fun x hx hv => ?_⟩
  · have := hL'.far (p := ⟨lb, 1, none⟩) (fun j hj => hL'.ne_bk hB2 (by decide) j hj) v'
    unfold iV at this ⊢
    rw [List.map_append, List.length_append, hbl]
    exact this
  · have := hL12.far (p := ⟨lb, 1, none⟩) (fun j hj => hL12.ne_bk hB2 (by decide) j hj) v'
    simpa using this
  · exact (((hf.mono (T := t.v1.ownBlock.toList ++ t.v2.ownBlock.toList) (by simp)).trans hf2 (fun x hx => .inl (by simp at hx; simp [hx]))).setCell (.inr hlb) _)
  · rcases hat x hx with e | e
    · exact .inl e
    · exact .inr (Nat.le_trans hf.size e)
  · rcases hat x hv with e | e
    · exact o3 x hx e
    · have := (hL1.lt x hx).2
      omega
/-- All zeros laid: what the store of the thread's row leaves. -/
theorem DT.pushed {b0 lb : Nat} {g k : Nat} {R : Dr} {t : Dt} {w wx : World} {n gt off cap : Nat} (h : DT b0 w g R) (ht : R.ts[k]? = some t) (hlb : w.heap.size ≤ lb) (hn : 1 ≤ n) (hroom : sumL t.ls + n ≤ R.S) (hv : R.vt = .slice (some ⟨gt, off, none⟩) R.ts.length cap)
    (hx : PuS b0 lb t w (begL t.ls ++ [((sumL t.ls : Nat) : Int)]) t.ls.flatten.length n wx) (r : Value) :
    ∃ v1 v2, (∃ A n c, v1 = .slice A n c) ∧ (∃ A n c, v2 = .slice A n c) ∧ Bk wx lb 73 #[v1, v2] ∧ Bk wx g 71 #[R.vt, .int .i64 R.S, R.vh, R.vq] ∧ Lst wx b0 73 2 R.vt R.ts.length (R.ts.flatMap (fun t => [t.v1, t.v2])) ∧
      DO b0 g { R.abs with ths := R.abs.ths.set k (t.ls ++ [List.replicate n 0]) } (R.foot g) r w (.returned r) ((wx.setCell ⟨gt, off + k * 2, none⟩ v1).setCell ⟨gt, off + k * 2 + 1, none⟩ v2) := by
  obtain ⟨v1, v2, b1, b2, b3, b4, b5, b6, b7⟩ := hx
  obtain ⟨m1, m2⟩ := Dr.Mt ht
  have hk := (List.getElem?_eq_some_iff.1 ht).1
  have hin : ∀ x, x ∈ t.v1.ownBlock.toList ++ t.v2.ownBlock.toList → x ∈ footM R.M := fun x hx => by
    rcases List.mem_append.1 hx with hx | hx
    · exact footM_at m1 (by simpa using hx)
    · exact footM_at m2 (by simpa using hx)
  have hB2 := h.B.fr b4 (fun hx => (h.nog (hin g hx)).1 rfl)
  have hT2 := h.Th.fr b4 (fun k hk hx => (h.nog (hin k hx)).2 (by simp [hk]))
  refine ⟨v1, v2, by obtain ⟨A, c, e, _⟩ := b3.look; exact ⟨A, _, c, e⟩, by obtain ⟨A, c, e, _⟩ := b2.look; exact ⟨A, _, c, e⟩, b1, hB2, hT2, ?_⟩
  have hbl : (begL t.ls).length = t.ls.length := by simp [begL]
  refine h.turn2 (w2 := wx) ⟨v1, v2, t.ls ++ [List.replicate n 0]⟩ ht b4 ?_ b5 ?_ b6 b7 ?_ (fun hT => ?_) ?_ (fun l hl => ?_) r
  · show Lst wx b0 3 1 v2 (t.ls ++ [List.replicate n 0]).length (iV (begL (t.ls ++ [List.replicate n 0])))
    rw [begL_snoc]
    rw [List.length_append, hbl] at b2
    rw [List.length_append]
    exact b2
  · show Lst wx b0 3 1 v1 (t.ls ++ [List.replicate n 0]).flatten.length (iV (t.ls ++ [List.replicate n 0]).flatten)
    have e : (t.ls ++ [List.replicate n (0 : Int)]).flatten = t.ls.flatten ++ List.replicate n 0 := by simp
    rw [e, List.length_append, List.length_replicate]
    exact b3
  · rw [hv]
    exact ((Fr.refl _ _).setCell (by simp [Value.ownBlock]) _).setCell (by simp [Value.ownBlock]) _
  · rw [hv] at hT ⊢
    exact Th.put2 ⟨v1, v2, t.ls ++ [List.replicate n 0]⟩ hk hT
  · show sumL (t.ls ++ [List.replicate n 0]) ≤ R.S
    rw [sumL_snoc, List.length_replicate]
    exact hroom
  · have hl : l ∈ t.ls ++ [List.replicate n 0] := hl
    rcases List.mem_append.1 hl with hl | hl
    · exact h.one t (List.mem_of_getElem? ht) l hl
    · obtain rfl : l = List.replicate n 0 := by simpa using hl
      simpa using hn

set_option maxRecDepth 100000 in
set_option maxHeartbeats 1600000 in
theorem dpush_any {b0 : Nat} {w : World} {g : Nat} {a : RA} {F : List Nat} (h : DS b0 w g a F) (hb0 : b0 ≤ w.heap.size) (i n : Int) :
    Calls Try.prog 42 #[.pointer (some ⟨g, 0, none⟩), .int .i64 i, .int .i64 n] w (DO b0 g (pushA a i n).1 F (.int .i64 (pushA a i n).2) w) := by
  have HD := Lib.hid h
  obtain ⟨R, hR, rfl, rfl⟩ := h
  have HI := Lib.hid (is_any hR i w rfl)
  cases hi : inT R.abs i with
  | false =>
    have e : pushA R.abs i n = (R.abs, 51) := by unfold pushA; rw [if_pos hi]
    rw [hi] at HI
    rw [e]
    clear hR hi e
    go_enter Try.func42, Try.ntmps42
    go_wp2_with fail
    refine (Calls.mono HI.out ?_)
    rintro e w' ⟨rfl, rfl⟩
    go_wp2_with fail
    go_ret
    exact DO.same HD.out (Fr.refl _ _)
  | true =>
    rw [hi] at HI
    by_cases hn1 : n < 1
    · have e : pushA R.abs i n = (R.abs, 50) := by unfold pushA; rw [if_neg (by rw [hi]; simp), if_pos hn1]
      have d1 : decide (n < 1) = true := decide_eq_true hn1
      rw [e]
      clear hR hi e hn1
      go_enter Try.func42, Try.ntmps42
      go_wp2_with fail
      refine (Calls.mono HI.out ?_)
      rintro e w' ⟨rfl, rfl⟩
      go_wp2_with fail
      go_ret
      exact DO.same HD.out (Fr.refl _ _)
    · have d1 : decide (n < 1) = false := decide_eq_false hn1
      obtain ⟨k, t, rfl, ht, hth⟩ := inT_dr hi
      obtain ⟨gt, off, cap, hv, hgl, ct1, ct2, _⟩ := hR.t_at ht
      have c0 : w.cell? ⟨g, 0, none⟩ = some R.vt := hR.B.cell 0
      have c1 : w.cell? ⟨g, 1, none⟩ = some (.int .i64 (R.S : Int)) := hR.B.cell 1
      have hgg := hR.B.lt
      have hS := hR.ok.2.1
      have hrm := hR.room t (List.mem_of_getElem? ht)
      have hfl := flatten_len t.ls
      have hkl := (List.getElem?_eq_some_iff.1 ht).1
      obtain ⟨A1, p1, hv1, _, _⟩ := (hR.slots ht).look
      obtain ⟨A2, p2, hv2, _, _⟩ := (hR.begs ht).look
      have HV1 := Lib.hid hv1
      have HV2 := Lib.hid hv2
      have HV := Lib.hid hv
      obtain ⟨L, hL⟩ : ∃ L, t.ls.flatten.length = L := ⟨_, rfl⟩
      obtain ⟨q, hq⟩ : ∃ q, t.ls.length = q := ⟨_, rfl⟩
      obtain ⟨N, hN⟩ : ∃ N, R.ts.length = N := ⟨_, rfl⟩
      obtain ⟨S, hSd⟩ : ∃ S, R.S = S := ⟨_, rfl⟩
      have HLd := Lib.hid hL
      have HQd := Lib.hid hq
      have HND := Lib.hid hN
      have HSD := Lib.hid hSd
      have HFL : Hid (sumL t.ls = L) := by show sumL t.ls = L; omega
      have HR := Lib.hid hR
      have HT := Lib.hid ht
      rw [hv, hN] at c0
      rw [hv1, hL] at ct1
      rw [hv2, hq, ← Nat.add_assoc] at ct2
      rw [hN] at hkl
      rw [hSd] at c1 hS hrm
      have hLS : L ≤ S := by omega
      have i0 : (0 : Int) ≤ (k : Int) := by omega
      have i1 : (k : Int) < (N : Int) := by omega
      have j1 : IntKind.i64.wrap ((S : Int) - (L : Int)) = (S : Int) - (L : Int) := IntWalk.i64_in _ (by omega)
      have hpA : pushA R.abs (k : Int) n = if (S : Int) - (L : Int) < n then (R.abs, 53) else ({ R.abs with ths := R.abs.ths.set k (t.ls ++ [List.replicate n.toNat 0]) }, 0) := by
        unfold pushA
        rw [if_neg (by rw [hi]; simp), if_neg hn1, hth, HFL.out]
        have e5 : ((R.abs.S : Nat) : Int) - ((L : Nat) : Int) = (S : Int) - (L : Int) := by rw [show R.abs.S = S from hSd]
        rw [e5]
        simp
      by_cases hov : (S : Int) - (L : Int) < n
      · have d2 : decide ((S : Int) - (L : Int) < n) = true := decide_eq_true hov
        rw [if_pos hov] at hpA
        rw [hpA]
        clear hR hi hn1 ht hth hv hv1 hv2 hfl hrm hL hq hN hSd hpA hov
        go_enter Try.func42, Try.ntmps42
        go_wp2_with fail
        refine (Calls.mono HI.out ?_)
        rintro e w' ⟨rfl, rfl⟩
        go_upto_region 7 with fail
        go_quiet (fail)
        go_wp2_with fail
        go_ret
        refine DO.same HD.out ?_
        repeat (first | exact Fr.refl _ _ | refine Fr.drewN ?_ _ | refine Fr.drew ?_ | refine Fr.alloc ?_ _)
      · have d2 : decide ((S : Int) - (L : Int) < n) = false := decide_eq_false hov
        rw [if_neg hov] at hpA
        rw [hpA]
        obtain ⟨m, rfl⟩ := Int.eq_ofNat_of_zero_le (a := n) (by omega)
        have hm1 : 1 ≤ m := by omega
        have hm2 : L + m ≤ S := by omega
        have htn : ((m : Int)).toNat = m := by simp
        rw [htn]
        have HEND : Hid (∀ wx, PuS b0 w.heap.size t w (begL t.ls ++ [((sumL t.ls : Nat) : Int)]) L m wx → ∃ v1 v2, (∃ A n c, v1 = .slice A n c) ∧ (∃ A n c, v2 = .slice A n c) ∧ Bk wx w.heap.size 73 #[v1, v2] ∧ Bk wx g 71 #[R.vt, .int .i64 R.S, R.vh, R.vq] ∧ Lst wx b0 73 2 R.vt R.ts.length (R.ts.flatMap (fun t => [t.v1, t.v2])) ∧
          DO b0 g { R.abs with ths := R.abs.ths.set k (t.ls ++ [List.replicate m 0]) } (R.foot g) (.int .i64 0) w (.returned (.int .i64 0)) ((wx.setCell ⟨gt, off + k * 2, none⟩ v1).setCell ⟨gt, off + k * 2 + 1, none⟩ v2)) := fun wx hx =>
            HR.out.pushed HT.out (Nat.le_refl _) hm1 (by rw [HFL.out, HSD.out]; exact hm2) HV.out (by rw [HLd.out]; exact hx) _
        have HST : Hid (∀ Z v' w1, Bk Z w.heap.size 73 #[.slice A1 L p1, .slice A2 q p2] → Fr [] w Z → Fr (Value.slice A2 q p2).ownBlock.toList Z w1 → Lst w1 b0 3 1 v' (q + 1) (iV (begL t.ls) ++ [.int .i64 (L : Nat)]) → (∀ x, v'.ownBlock = some x → (Value.slice A2 q p2).ownBlock = some x ∨ Z.heap.size ≤ x) →
          Bk w1 w.heap.size 73 #[.slice A1 L p1, .slice A2 q p2] ∧ PuS b0 w.heap.size t w (begL t.ls ++ [((sumL t.ls : Nat) : Int)]) L 0 (w1.setCell ⟨w.heap.size, 1, none⟩ v')) := fun Z v' w1 x1 x2 x3 x4 x5 => by
            have e1 : t.v1 = .slice A1 L p1 := by rw [HV1.out, HLd.out]
            have e2 : t.v2 = .slice A2 q p2 := by rw [HV2.out, HQd.out]
            have := PuS.start (Z := Z) (w1 := w1) (v' := v') (lb := w.heap.size) HR.out HT.out (Nat.le_refl _) (by rw [e1, e2]; exact x1) x2 (by rw [e2]; exact x3) (by rw [HQd.out, HFL.out]; exact x4) (by rw [e2]; exact x5)
            rw [HLd.out] at this
            rw [e1, e2] at this
            exact this
        have HL2 : Hid (∀ {Z : World}, Fr [] w Z → Lst Z b0 3 1 (.slice A2 q p2) q (iV (begL t.ls))) := fun {Z} hf => by
          have := (HR.out.begs HT.out).fr hf (by simp)
          rw [HV2.out, HQd.out] at this
          exact this
        have hq8 : q ≤ 4096 := by
          have h1 := HR.out.one t (List.mem_of_getElem? ht)
          have h3 : ∀ l : List (List Int), (∀ x ∈ l, 1 ≤ x.length) → l.length ≤ sumL l := fun l => by
            induction l with
            | nil => intro _; simp
            | cons x l ih =>
              intro h
              have := ih (fun y hy => h y (by simp [hy]))
              have := h x (by simp)
              simp only [sumL, List.map_cons, List.sum_cons, List.length_cons] at *
              omega
          have := h3 t.ls h1
          omega
        obtain ⟨i2, hi2, hz2, hs2, hb2⟩ := info_parts int_info
        clear hR hi hn1 ht hth hv hv1 hv2 hfl hrm hL hq hN hSd hpA hov htn
        go_enter Try.func42, Try.ntmps42
        go_wp2_with fail
        refine (Calls.mono HI.out ?_)
        rintro e w' ⟨rfl, rfl⟩
        go_upto_region 7 with fail
        go_quiet (fail)
        go_wp2_with (at_builtin; refine wpList_append_lst _ rfl (.tmp 35) (.tmp 39) _ rfl b0 3 i2 _ 1 8 Try.underlying31 hi2 hz2 hs2 hb2 rfl (.slice A2 q p2) q (iV (begL t.ls)) rfl (HL2.out (by repeat (first | exact Fr.refl _ _ | refine Fr.drewN ?_ _ | refine Fr.drew ?_ | refine Fr.alloc ?_ _))) ⟨w.heap.size + 1, 0, none⟩ 1 1 [.int .i64 (L : Nat)] rfl rfl (World.news_of_block (cs := #[.int .i64 (L : Nat)]) (t := 3) (fr := (0, 0)) (Bk.new_at _ _ _ _ (by simp))) ?c2 ?c3 ?c4 ?c5 ?c6)
        case c2 => simp [Value.oneCell']
        case c3 => unfold maxLen; omega
        case c4 => omega
        case c5 => first | omega | (simp; omega)
        case c6 =>
          intro v2 w1 hown hgrow hat
          obtain ⟨hb1, hp1⟩ := HST.out _ v2 w1 (by repeat (first | exact Bk.new _ _ _ | refine Bk.alloc ?_ _ | refine Bk.drewN ?_ _ | refine Bk.drew ?_)) (by repeat (first | exact Fr.refl _ _ | refine Fr.drewN ?_ _ | refine Fr.drew ?_ | refine Fr.alloc ?_ _)) (Fr.of_grown hgrow) hown (own_or (by simp) hat)
          have HP1 := Lib.hid hp1
          obtain ⟨A3, p3, rfl, _, _⟩ := hown.look
          have d0 := hb1.cell 0
          have d1 := hb1.cell 1
          have f1 := hb1.free 1
          clear hown hgrow hat hp1 hb1
          go_wp2_with fail
          go_loopw [9] (fun j wr => ∃ i : Nat, i ≤ m ∧ j = .int .i64 i ∧ Hid (PuS b0 w.heap.size t w (begL t.ls ++ [((sumL t.ls : Nat) : Int)]) L i wr)) (fun j _ => m - (intOf j).toNat)
          case atStart => exact ⟨0, by omega, rfl, HP1.out⟩
          case round =>
            obtain ⟨i, hi, rfl, HX⟩ := hrel
            clear d0 d1 f1
            by_cases hlt : i < m
            · obtain ⟨u1, u2, b1, b2, b3, b4, b5, b6, b7⟩ := HX.out
              have HMORE : Hid (∀ w2 v1', Fr u1.ownBlock.toList wr w2 → Lst w2 b0 3 1 v1' (L + i + 1) (iV (t.ls.flatten ++ List.replicate i 0) ++ [.int .i64 0]) → (∀ x, v1'.ownBlock = some x → u1.ownBlock = some x ∨ wr.heap.size ≤ x) → Bk w2 w.heap.size 73 #[u1, u2] ∧ PuS b0 w.heap.size t w (begL t.ls ++ [((sumL t.ls : Nat) : Int)]) L (i + 1) (w2.setCell ⟨w.heap.size, 0, none⟩ v1')) := fun w2 v1' y1 y2 y3 =>
                PuS.more (Nat.le_refl _) b1 b2 b3 b4 b5 b6 b7 y1 y2 y3
              have hsz := b4.size
              have d0 := b1.cell 0
              obtain ⟨A4, p4, rfl, _, _⟩ := b3.look
              have HB3 := Lib.hid b3
              have i4 : decide ((i : Int) < (m : Int)) = true := decide_eq_true (by omega)
              clear b1 b2 b3 b4 b5 b6 b7
              go_wp2_with (at_builtin; refine wpList_append_lst _ rfl (.tmp 48) (.tmp 49) _ rfl b0 3 i2 _ 1 8 Try.underlying31 hi2 hz2 hs2 hb2 rfl (.slice A4 (L + i) p4) (L + i) (iV (t.ls.flatten ++ List.replicate i 0)) rfl (HB3.out.alloc _) ⟨wr.heap.size, 0, none⟩ 1 1 [.int .i64 0] rfl rfl (World.news_of_block (heap_alloc_new _ _)) ?c7 ?c8 ?c9 ?c10 ?c11)
              case c7 => simp [Value.oneCell']
              case c8 => unfold maxLen; omega
              case c9 => omega
              case c10 => first | omega | (simp; omega)
              case c11 =>
                intro v3 w3 hown hgrow hat
                obtain ⟨hb1, hp1⟩ := HMORE.out w3 v3 (((Fr.refl _ _).alloc _).grown hgrow (fun k hk => .inl (by simp [hk]))) hown (own_or (by simp) hat)
                have HP2 := Lib.hid hp1
                obtain ⟨A5, p5, rfl, _, _⟩ := hown.look
                have d1 := hb1.cell 0
                have f1 := hb1.free 0
                clear hown hgrow hat hp1 hb1 d0
                go_wp2_with fail
                go_roundw
                case rel => exact ⟨i + 1, by omega, by go_num, HP2.out⟩
                case measure => simp [intOf]; omega
            · obtain rfl : m = i := by omega
              obtain ⟨u1, u2, ⟨A6, n6, p6, rfl⟩, ⟨A7, n7, p7, rfl⟩, b1, b2, b3, hend⟩ := HEND.out wr HX.out
              have HE := Lib.hid hend
              rw [HV.out, HND.out] at b2 b3
              have b2 := b2
              have d0 := b1.cell 0
              have d1 := b1.cell 1
              have e0 := b2.cell 0
              obtain ⟨gt', off', cap', hv', _, hgl', _, _, _, hfz, hcl⟩ := b3.form (by omega)
              injection hv' with hv' _ hv'2
              injection hv' with hv'
              injection hv' with hv' hv'3
              subst hv' hv'3
              obtain ⟨g1, g2⟩ := flat2_at Dt.v1 Dt.v2 R.ts k t HT.out
              have e1 := hcl _ _ g1
              have e2 := hcl _ _ g2
              rw [← Nat.add_assoc] at e2
              have f1 := hfz (off + k * 2)
              have f2 := hfz (off + k * 2 + 1)
              have i4 : decide ((m : Int) < (m : Int)) = false := decide_eq_false (by omega)
              clear b1 b2 b3 hend hfz hcl g1 g2
              go_upto_region 14 with fail
              go_region
              all_goals
                go_wp2_with fail
                go_ret
                first
                  | exact HE.out
                  | exact HE.out.drew
                  | exact DO.drewN HE.out _
end Go.Proofs.Ytdjemkgnhohcdaa
namespace Go.Proofs.Ytdjemkgnhohcdaa
open Go.RowKit
set_option linter.unusedVariables false

theorem DO.alloc {b0 : Nat} {w w' : World} {g : Nat} {a : RA} {F : List Nat} {r : Value} {e : Ending} (h : DO b0 g a F r w e w') (o : Obj) : DO b0 g a F r w e (w'.alloc o) := by
  obtain ⟨h1, F', h2, h3, h4⟩ := h
  exact ⟨h1, F', h2.nil ((Fr.refl _ _).alloc o), h3.alloc o, h4⟩
theorem DT.popped {b0 : Nat} {g k : Nat} {R : Dr} {t : Dt} {w Z : World} {C : List (List Int)} {T : List Int} {gt off cap sa oa ca sb ob cb : Nat} (h : DT b0 w g R) (ht : R.ts[k]? = some t) (hls : t.ls = C ++ [T]) (hv : R.vt = .slice (some ⟨gt, off, none⟩) R.ts.length cap)
    (hv1 : t.v1 = .slice (some ⟨sa, oa, none⟩) t.ls.flatten.length ca) (hv2 : t.v2 = .slice (some ⟨sb, ob, none⟩) t.ls.length cb) (hf : Fr [] w Z) (r : Value) :
    DO b0 g { R.abs with ths := R.abs.ths.set k C } (R.foot g) r w (.returned r) ((Z.setCell ⟨gt, off + k * 2, none⟩ (.slice (some ⟨sa, oa, none⟩) (sumL C) ca)).setCell ⟨gt, off + k * 2 + 1, none⟩ (.slice (some ⟨sb, ob, none⟩) C.length cb)) := by
  have hk := (List.getElem?_eq_some_iff.1 ht).1
  have hL1 := (h.slots ht).fr hf (by simp)
  have hL2 := (h.begs ht).fr hf (by simp)
  obtain ⟨m1, m2⟩ := Dr.Mt ht
  have o3 : ∀ x, t.v1.ownBlock = some x → t.v2.ownBlock ≠ some x := fun x hx => h.P.apart _ _ _ _ x (by omega) m1 m2 hx
  rw [hv1] at hL1
  rw [hv2] at hL2
  have hfl : t.ls.flatten.length = sumL C + T.length := by rw [flatten_len, hls, sumL_snoc]
  have hll : t.ls.length = C.length + 1 := by rw [hls]; simp
  have s1 := hL1.shut (k := sumL C) (by omega)
  have s2 := hL2.shut (k := C.length) (by omega)
  have e1 : (iV t.ls.flatten).take (sumL C * 1) = iV C.flatten := by
    unfold iV
    rw [← List.map_take, Nat.mul_one, hls, List.flatten_append, ← flatten_len C, List.take_left']
    rfl
  have e2 : (iV (begL t.ls)).take (C.length * 1) = iV (begL C) := by
    unfold iV
    have : (begL C).length = C.length := by simp [begL]
    rw [← List.map_take, Nat.mul_one, hls, begL_snoc, ← this, List.take_left']
    rfl
  rw [e1] at s1
  rw [e2] at s2
  refine h.turn2 (w2 := Z) ⟨.slice (some ⟨sa, oa, none⟩) (sumL C) ca, .slice (some ⟨sb, ob, none⟩) C.length cb, C⟩ ht (hf.mono (by simp)) s2 (fun x hx => .inl (by rw [hv2]; exact hx)) ?_ (fun x hx => .inl (by rw [hv1]; exact hx)) (fun x hx hx' => ?_) ?_ (fun hT => ?_) ?_ (fun l hl => ?_) r
  · show Lst Z b0 3 1 _ C.flatten.length (iV C.flatten)
    rw [flatten_len]
    exact s1
  · exact o3 x (by rw [hv1]; exact hx) (by rw [hv2]; exact hx')
  · rw [hv]
    exact ((Fr.refl _ _).setCell (by simp [Value.ownBlock]) _).setCell (by simp [Value.ownBlock]) _
  · rw [hv] at hT ⊢
    exact Th.put2 ⟨.slice (some ⟨sa, oa, none⟩) (sumL C) ca, .slice (some ⟨sb, ob, none⟩) C.length cb, C⟩ hk hT
  · show sumL C ≤ R.S
    have := h.room t (List.mem_of_getElem? ht)
    rw [hls, sumL_snoc] at this
    omega
  · exact h.one t (List.mem_of_getElem? ht) l (by rw [hls]; exact List.mem_append_left _ hl)

set_option maxRecDepth 100000 in
set_option maxHeartbeats 1600000 in
theorem dpop_any {b0 : Nat} {w : World} {g : Nat} {a : RA} {F : List Nat} (h : DS b0 w g a F) (i : Int) :
    Calls Try.prog 43 #[.pointer (some ⟨g, 0, none⟩), .int .i64 i] w (DO b0 g (popA a i).1 F (.int .i64 (popA a i).2) w) := by
  have HD := Lib.hid h
  obtain ⟨R, hR, rfl, rfl⟩ := h
  have HI := Lib.hid (is_any hR i w rfl)
  cases hi : inT R.abs i with
  | false =>
    have e : popA R.abs i = (R.abs, 51) := by unfold popA; rw [if_pos hi]
    rw [hi] at HI
    rw [e]
    clear hR hi e
    go_enter Try.func43, Try.ntmps43
    go_wp2_with fail
    refine (Calls.mono HI.out ?_)
    rintro e w' ⟨rfl, rfl⟩
    go_wp2_with fail
    go_ret
    exact DO.same HD.out (Fr.refl _ _)
  | true =>
    rw [hi] at HI
    obtain ⟨k, t, rfl, ht, hth⟩ := inT_dr hi
    obtain ⟨gt, off, cap, hv, hgl, ct1, ct2, hfz⟩ := hR.t_at ht
    have c0 : w.cell? ⟨g, 0, none⟩ = some R.vt := hR.B.cell 0
    have hgg := hR.B.lt
    have hkl := (List.getElem?_eq_some_iff.1 ht).1
    have HR := Lib.hid hR
    have HT := Lib.hid ht
    have HV := Lib.hid hv
    obtain ⟨N, hN⟩ : ∃ N, R.ts.length = N := ⟨_, rfl⟩
    have HND := Lib.hid hN
    rw [hv, hN] at c0
    rw [hN] at hkl
    have i0 : (0 : Int) ≤ (k : Int) := by omega
    have i1 : (k : Int) < (N : Int) := by omega
    by_cases hnil : thA R.abs (k : Int) = []
    · have e : popA R.abs (k : Int) = (R.abs, 54) := by unfold popA; rw [if_neg (by rw [hi]; simp), if_pos hnil]
      rw [e]
      rw [hth] at hnil
      obtain ⟨A1, p1, hv1, _, _⟩ := (hR.slots ht).look
      obtain ⟨A2, p2, hv2, _, _⟩ := (hR.begs ht).look
      rw [hnil] at hv2
      simp only [List.length_nil] at hv2
      obtain ⟨L, hL⟩ : ∃ L, t.ls.flatten.length = L := ⟨_, rfl⟩
      rw [hv1, hL] at ct1
      rw [hv2, ← Nat.add_assoc] at ct2
      clear hR ht hi e hnil hth hv hN hv1 hv2 hL hfz
      go_enter Try.func43, Try.ntmps43
      go_wp2_with fail
      refine (Calls.mono HI.out ?_)
      rintro e w' ⟨rfl, rfl⟩
      go_wp2_with fail
      go_ret
      refine DO.same HD.out ?_
      repeat (first | exact Fr.refl _ _ | refine Fr.drewN ?_ _ | refine Fr.drew ?_ | refine Fr.alloc ?_ _)
    · obtain ⟨C, T, hCT⟩ := last_split (l := t.ls) (by rw [← hth]; exact hnil)
      have e : popA R.abs (k : Int) = ({ R.abs with ths := R.abs.ths.set k C }, 0) := by
        unfold popA
        rw [if_neg (by rw [hi]; simp), if_neg hnil, hth, hCT]
        simp
      rw [e]
      have hT1 : 1 ≤ T.length := hR.one t (List.mem_of_getElem? ht) T (by rw [hCT]; simp)
      have hfl : t.ls.flatten.length = sumL C + T.length := by rw [flatten_len, hCT, sumL_snoc]
      have hll : t.ls.length = C.length + 1 := by rw [hCT]; simp
      obtain ⟨sa, oa, ca, hv1, _, hsa, hca, hcam, _, _, _⟩ := (hR.slots ht).form (by omega)
      obtain ⟨sb, ob, cb, hv2, _, hsb, hcb, hcbm, _, _, hcl⟩ := (hR.begs ht).form (by omega)
      have HE : Hid (∀ Z : World, Fr [] w Z → DO b0 g { R.abs with ths := R.abs.ths.set k C } (R.foot g) (.int .i64 0) w (.returned (.int .i64 0)) ((Z.setCell ⟨gt, off + k * 2, none⟩ (.slice (some ⟨sa, oa, none⟩) (sumL C) ca)).setCell ⟨gt, off + k * 2 + 1, none⟩ (.slice (some ⟨sb, ob, none⟩) C.length cb))) :=
        fun Z hf => hR.popped ht hCT hv hv1 hv2 hf _
      have cbq : w.cell? ⟨sb, ob + C.length, none⟩ = some (.int .i64 ((sumL C : Nat) : Int)) := by
        refine hcl C.length _ (iV_at ?_)
        rw [begL_at (by omega), hCT, List.take_left' rfl]
      have hrm := hR.room t (List.mem_of_getElem? ht)
      rw [← flatten_len, hfl] at hrm
      have hS := hR.ok.2.1
      have hq8 : C.length ≤ 4096 := by
        have h1 := hR.one t (List.mem_of_getElem? ht)
        have h3 : ∀ l : List (List Int), (∀ x ∈ l, 1 ≤ x.length) → l.length ≤ sumL l := fun l => by
          induction l with
          | nil => intro _; simp
          | cons x l ih =>
            intro h
            have := ih (fun y hy => h y (by simp [hy]))
            have := h x (by simp)
            simp only [sumL, List.map_cons, List.sum_cons, List.length_cons] at *
            omega
        have := h3 C (fun x hx => h1 x (by rw [hCT]; simp [hx]))
        omega
      obtain ⟨p, hp⟩ : ∃ p, sumL C = p := ⟨_, rfl⟩
      obtain ⟨q, hq⟩ : ∃ q, C.length = q := ⟨_, rfl⟩
      obtain ⟨z, hz⟩ : ∃ z, T.length = z := ⟨_, rfl⟩
      rw [hp, hq] at HE cbq
      rw [hfl, hp, hz] at hv1 hca
      rw [hll, hq] at hv2 hcb
      rw [hp, hz] at hrm
      rw [hq] at hq8
      rw [hv1] at ct1
      rw [hv2, ← Nat.add_assoc] at ct2
      have hpz : p + z ≤ 4096 := by omega
      have l1 : p ≤ ca := by omega
      have l2 : q ≤ cb := by omega
      have j0 : (0 : Int) ≤ (q : Int) := by omega
      have j1 : (q : Int) < ((q + 1 : Nat) : Int) := by omega
      have j2 : (q : Int) < (q : Int) + 1 := by omega
      have j3 : IntKind.i64.wrap (((q + 1 : Nat) : Int) - 1) = (q : Int) := by rw [show ((q + 1 : Nat) : Int) - 1 = (q : Int) by omega]; exact IntWalk.i64_in _ (by omega)
      have j4 : IntKind.i64.wrap (q : Int) = (q : Int) := IntWalk.i64_in _ (by omega)
      have j5 : (((q + 1 : Nat) : Int) == 0) = false := by simpa using (show ((q + 1 : Nat) : Int) ≠ 0 by omega)
      have j6 : ((q : Int) + 1 == 0) = false := by simpa using (show (q : Int) + 1 ≠ 0 by omega)
      have p0 : (0 : Int) ≤ (p : Int) := by omega
      have p1 : (p : Int) ≤ (ca : Int) := by omega
      have q1 : (q : Int) ≤ (cb : Int) := by omega
      have f1 := hfz (off + k * 2)
      have f2 := hfz (off + k * 2 + 1)
      clear hR ht hi e hnil hth hv hN hv1 hv2 hfz hCT hT1 hfl hll hcl hp hq hz hrm hS
      go_enter Try.func43, Try.ntmps43
      go_wp2_with fail
      refine (Calls.mono HI.out ?_)
      rintro e w' ⟨rfl, rfl⟩
      go_upto_region 8 with fail
      go_region
      all_goals
        go_upto_region 10 with fail
        go_region
      all_goals
        go_wp2_with fail
        go_ret
        repeat (first | exact HE.out _ (by repeat (first | exact Fr.refl _ _ | refine Fr.drewN ?_ _ | refine Fr.drew ?_ | refine Fr.alloc ?_ _)) | refine DO.drew ?_ | refine DO.alloc ?_ _)
end Go.Proofs.Ytdjemkgnhohcdaa
namespace Go.Proofs.Ytdjemkgnhohcdaa
open Go.RowKit
set_option linter.unusedVariables false

theorem len_sumL {l : List (List Int)} (h : ∀ x ∈ l, 1 ≤ x.length) : l.length ≤ sumL l := by
  induction l with
  | nil => simp
  | cons x l ih =>
    have := ih (fun y hy => h y (by simp [hy]))
    have := h x (by simp)
    simp only [sumL, List.map_cons, List.sum_cons, List.length_cons] at *
    omega

set_option maxRecDepth 100000 in
set_option maxHeartbeats 1600000 in
theorem dframes_any {b0 : Nat} {w : World} {g : Nat} {a : RA} {F : List Nat} (h : DS b0 w g a F) (i : Int) :
    Calls Try.prog 44 #[.pointer (some ⟨g, 0, none⟩), .int .i64 i] w (NewL (framesA a i) w) := by
  obtain ⟨R, hR, rfl, rfl⟩ := h
  have HI := Lib.hid (is_any hR i w rfl)
  cases hi : inT R.abs i with
  | false =>
    have e : framesA R.abs i = [] := by unfold framesA; rw [if_pos hi]
    rw [hi] at HI
    rw [e]
    clear hR hi e
    go_enter Try.func44, Try.ntmps44
    go_wp2_with fail
    refine (Calls.mono HI.out ?_)
    rintro e w' ⟨rfl, rfl⟩
    go_wp2_with fail
    go_ret
    exact ⟨_, rfl, Lst.nil _ _ _ _, Fr.refl _ _⟩
  | true =>
    rw [hi] at HI
    obtain ⟨k, t, rfl, ht, hth⟩ := inT_dr hi
    obtain ⟨gt, off, cap, hv, hgl, ct1, ct2, hfz⟩ := hR.t_at ht
    have c0 : w.cell? ⟨g, 0, none⟩ = some R.vt := hR.B.cell 0
    have hgg := hR.B.lt
    have hkl := (List.getElem?_eq_some_iff.1 ht).1
    have HR := Lib.hid hR
    have HT := Lib.hid ht
    obtain ⟨N, hN⟩ : ∃ N, R.ts.length = N := ⟨_, rfl⟩
    rw [hv, hN] at c0
    rw [hN] at hkl
    have i0 : (0 : Int) ≤ (k : Int) := by omega
    have i1 : (k : Int) < (N : Int) := by omega
    obtain ⟨lens, hlens⟩ : ∃ X, t.ls.map (fun l => (l.length : Int)) = X := ⟨_, rfl⟩
    have e : framesA R.abs (k : Int) = lens := by
      unfold framesA
      rw [if_neg (by rw [hi]; simp), hth, hlens]
    rw [e]
    obtain ⟨m, hm⟩ : ∃ m, t.ls.length = m := ⟨_, rfl⟩
    obtain ⟨L, hL⟩ : ∃ L, t.ls.flatten.length = L := ⟨_, rfl⟩
    obtain ⟨A1, p1, hv1, _, _⟩ := (hR.slots ht).look
    obtain ⟨A2, p2, hv2, _, _⟩ := (hR.begs ht).look
    have HV2 := Lib.hid hv2
    have HM := Lib.hid hm
    have HLE := Lib.hid hlens
    have HLL : Hid (lens.length = m) := by show lens.length = m; rw [← hlens, List.length_map, hm]
    have hsL : sumL t.ls = L := by rw [← hL, flatten_len]
    have HSL := Lib.hid hsL
    have hrm := hR.room t (List.mem_of_getElem? ht)
    have hS := hR.ok.2.1
    have hm8 := len_sumL (hR.one t (List.mem_of_getElem? ht))
    rw [hv1, hL] at ct1
    rw [hv2, hm, ← Nat.add_assoc] at ct2
    rw [hm] at hm8
    have hL8 : L ≤ 4096 := by omega
    have hmm : m ≤ 4096 := by omega
    have HB : Hid (Lst w b0 3 1 (.slice A2 m p2) m (iV (begL t.ls))) := by
      have := hR.begs ht
      rw [hv2, hm] at this
      exact this
    obtain ⟨i2, hi2, hz2, hs2, hb2⟩ := info_parts int_info
    clear hR ht hi e hth hv hN hv1 hv2 hfz hlens hm hL hrm hS hm8 hsL
    go_enter Try.func44, Try.ntmps44
    go_wp2_with fail
    refine (Calls.mono HI.out ?_)
    rintro e w' ⟨rfl, rfl⟩
    go_wp2_with fail
    go_loopw [7, 8] (fun v j wr => ∃ i : Nat, i ≤ m ∧ j = .int .i64 i ∧ Hid (Lst wr (w.heap.size + 1) 3 1 v i (iV (lens.take i)) ∧ Bk wr w.heap.size 73 #[.slice A1 L p1, .slice A2 m p2] ∧ Fr [] w wr)) (fun _ j _ => m - (intOf j).toNat)
    case atStart => exact ⟨0, by omega, rfl, Lst.nil _ _ _ _, by repeat (first | exact Bk.new _ _ _ | refine Bk.alloc ?_ _ | refine Bk.drewN ?_ _ | refine Bk.drew ?_), by repeat (first | exact Fr.refl _ _ | refine Fr.drewN ?_ _ | refine Fr.drew ?_ | refine Fr.alloc ?_ _)⟩
    case round =>
      obtain ⟨i, hi, rfl, hx⟩ := hrel
      have HL := Lib.hid hx.out.1
      have HW := Lib.hid hx.out.2.2
      have HBK := Lib.hid hx.out.2.1
      have d0 := hx.out.2.1.cell 0
      have d1 := hx.out.2.1.cell 1
      have hlt0 := hx.out.2.1.lt
      clear hx
      by_cases hlt : i < m
      · have hB := HB.out.fr HW.out (by simp)
        obtain ⟨sb, so, cb, hvb, _, hsb, _, _, _, _, hcl⟩ := hB.form (by omega)
        injection hvb with hvb _ hvb2
        subst hvb hvb2
        have hi1 : i < t.ls.length := by have := HM.out; omega
        have cb0 := hcl i _ (iV_at (begL_at hi1))
        obtain ⟨p, hp⟩ : ∃ p, sumL (t.ls.take i) = p := ⟨_, rfl⟩
        obtain ⟨z, hz⟩ : ∃ z, t.ls[i].length = z := ⟨_, rfl⟩
        have hnx : sumL (t.ls.take (i + 1)) = p + z := by rw [sumL_take_succ (List.getElem?_eq_getElem hi1), hp, hz]
        have hpz : p + z ≤ L := by
          have := sumL_take_le t.ls (i + 1)
          have := HSL.out
          omega
        have htk : lens.take (i + 1) = lens.take i ++ [(z : Int)] := by
          have h1 : lens[i]? = some (z : Int) := by rw [← HLE.out, List.getElem?_map, List.getElem?_eq_getElem hi1, ← hz]; rfl
          obtain ⟨h1, h2⟩ := List.getElem?_eq_some_iff.1 h1
          rw [List.take_succ_eq_append_getElem h1, h2]
        have HTK := Lib.hid htk
        rw [hp] at cb0
        have i9 : (0 : Int) ≤ (i : Int) := by omega
        have i3 : (i : Int) < (m : Int) := by omega
        have i4 : decide ((i : Int) < (m : Int)) = true := decide_eq_true i3
        have i5 : IntKind.i64.wrap ((i : Int) + 1) = (i : Int) + 1 := IntWalk.i64_in _ (by omega)
        have i6 : IntKind.i64.wrap (((p + z : Nat) : Int) - (p : Int)) = (z : Int) := by rw [show ((p + z : Nat) : Int) - (p : Int) = (z : Int) by omega]; exact IntWalk.i64_in _ (by omega)
        have i7 : IntKind.i64.wrap ((p : Int) + (z : Int) - (p : Int)) = (z : Int) := by rw [show (p : Int) + (z : Int) - (p : Int) = (z : Int) by omega]; exact IntWalk.i64_in _ (by omega)
        have i8 : IntKind.i64.wrap (z : Int) = (z : Int) := IntWalk.i64_in _ (by omega)
        have hsz := HW.out.size
        by_cases hlast : i + 1 < m
        · have cb1 := hcl (i + 1) _ (iV_at (begL_at (ls := t.ls) (k := i + 1) (by have := HM.out; omega)))
          rw [hnx] at cb1
          have cb2 := cb1
          rw [← Nat.add_assoc] at cb2
          have k1 : decide ((i : Int) + 1 < (m : Int)) = true := decide_eq_true (by omega)
          have k2 : (i : Int) + 1 < (m : Int) := by omega
          have k3 : (0 : Int) ≤ (i : Int) + 1 := by omega
          clear hcl hp hz hnx htk hB
          go_wp2_with (at_builtin; refine wpList_append_lst _ rfl (.tmp 44) (.tmp 52) _ rfl (w.heap.size + 1) 3 i2 _ 1 8 Try.underlying31 hi2 hz2 hs2 hb2 rfl _ i (iV (lens.take i)) rfl (HL.out.alloc _) ⟨wr.heap.size, 0, none⟩ 1 1 [.int .i64 z] rfl rfl (World.news_of_block (heap_alloc_new _ _)) ?c2 ?c3 ?c4 ?c5 ?c6)
          case c2 => simp [Value.oneCell']
          case c3 => unfold maxLen; omega
          case c4 => omega
          case c6 =>
            intro v2 w2 hown hgrow hat
            have HX : Hid (Lst w2 (w.heap.size + 1) 3 1 v2 (i + 1) (iV (lens.take (i + 1))) ∧ Bk w2 w.heap.size 73 #[.slice A1 L p1, .slice (some ⟨sb, so, none⟩) m p2] ∧ Fr [] w w2) := by
              refine ⟨?_, (HBK.out.alloc _).fr (Fr.of_grown hgrow) (fun hx => ?_), (HW.out.alloc _).grown hgrow (fun j hj => .inr (by have := (HL.out.lt j hj).1; omega))⟩
              · rw [HTK.out]
                unfold iV at hown ⊢
                rw [List.map_append]
                exact hown
              · have := (HL.out.lt w.heap.size (by simpa using hx)).1
                omega
            clear hown hgrow hat
            go_wp2
            go_roundw
            case rel => exact ⟨i + 1, by omega, by go_num, HX.out⟩
            case measure => simp [intOf]; omega
        · obtain rfl : L = p + z := by
            have h1 : t.ls.take (i + 1) = t.ls := List.take_of_length_le (by have := HM.out; omega)
            rw [h1] at hnx
            have := HSL.out
            omega
          have k1 : decide ((i : Int) + 1 < (m : Int)) = false := decide_eq_false (by omega)
          clear hcl hp hz hnx htk hB
          go_wp2_with (at_builtin; refine wpList_append_lst _ rfl (.tmp 44) (.tmp 52) _ rfl (w.heap.size + 1) 3 i2 _ 1 8 Try.underlying31 hi2 hz2 hs2 hb2 rfl _ i (iV (lens.take i)) rfl (HL.out.alloc _) ⟨wr.heap.size, 0, none⟩ 1 1 [.int .i64 z] rfl rfl (World.news_of_block (heap_alloc_new _ _)) ?e2 ?e3 ?e4 ?e5 ?e6)
          case e2 => simp [Value.oneCell']
          case e3 => unfold maxLen; omega
          case e4 => omega
          case e6 =>
            intro v2 w2 hown hgrow hat
            have HX : Hid (Lst w2 (w.heap.size + 1) 3 1 v2 (i + 1) (iV (lens.take (i + 1))) ∧ Bk w2 w.heap.size 73 #[.slice A1 (p + z) p1, .slice (some ⟨sb, so, none⟩) m p2] ∧ Fr [] w w2) := by
              refine ⟨?_, (HBK.out.alloc _).fr (Fr.of_grown hgrow) (fun hx => ?_), (HW.out.alloc _).grown hgrow (fun j hj => .inr (by have := (HL.out.lt j hj).1; omega))⟩
              · rw [HTK.out]
                unfold iV at hown ⊢
                rw [List.map_append]
                exact hown
              · have := (HL.out.lt w.heap.size (by simpa using hx)).1
                omega
            clear hown hgrow hat
            go_wp2
            go_roundw
            case rel => exact ⟨i + 1, by omega, by go_num, HX.out⟩
            case measure => simp [intOf]; omega
      · obtain rfl : m = i := by omega
        have hall : lens.take m = lens := List.take_of_length_le (by rw [HLL.out]; exact Nat.le_refl _)
        rw [hall] at HL
        clear hall hlt hi
        go_wp2_with fail
        go_ret
        exact ⟨_, rfl, by rw [HLL.out]; exact HL.out.mono (by omega), HW.out⟩
end Go.Proofs.Ytdjemkgnhohcdaa
namespace Go.Proofs.Ytdjemkgnhohcdaa
open Go.RowKit
set_option linter.unusedVariables false

def Dr.vs (R : Dr) : List Value := R.ts.map Dt.v1 ++ [R.vh, R.vq]

set_option maxRecDepth 100000 in
set_option maxHeartbeats 1600000 in
theorem dlists_any {b0 : Nat} {w : World} {g : Nat} {R : Dr} (hR : DT b0 w g R) :
    Calls Try.prog 60 #[.pointer (some ⟨g, 0, none⟩)] w fun e w' => ∃ v, e = .returned v ∧ Lst w' w.heap.size 31 1 v (R.ts.length + 2) R.vs ∧ Fr [] w w' := by
  have HR := Lib.hid hR
  have hgg := hR.B.lt
  obtain ⟨N, hN⟩ : ∃ N, R.ts.length = N := ⟨_, rfl⟩
  have HN := Lib.hid hN
  obtain ⟨A3, c3, hv3, _, _⟩ := hR.H.look
  obtain ⟨A4, c4, hv4, _, _⟩ := hR.Q.look
  obtain ⟨AT, cT, hvT, _, _⟩ := hR.Th.look
  obtain ⟨nh, hnh⟩ : ∃ n, R.hs.length = n := ⟨_, rfl⟩
  obtain ⟨nq, hnq⟩ : ∃ n, R.q.length = n := ⟨_, rfl⟩
  rw [hnh] at hv3
  rw [hnq] at hv4
  rw [hN] at hvT
  have HV3 := Lib.hid hv3
  have HV4 := Lib.hid hv4
  have HVT := Lib.hid hvT
  have hN8 : N ≤ 8 := by rw [← hN]; exact hR.ok.1
  have HVS : Hid (R.vs = R.ts.map Dt.v1 ++ [.slice A3 nh c3, .slice A4 nq c4]) := by
    show R.vs = _
    unfold Dr.vs
    rw [hv3, hv4]
  have c0 : w.cell? ⟨g, 0, none⟩ = some (.slice AT N cT) := by rw [← hvT]; exact hR.B.cell 0
  have HNil : Hid (∀ Z, Fr [] w Z → Z.cell? ⟨g, 0, none⟩ = some (.slice AT N cT) ∧ Z.cell? ⟨g, 2, none⟩ = some (.slice A3 nh c3) ∧ Z.cell? ⟨g, 3, none⟩ = some (.slice A4 nq c4)) := fun Z hf => by
    have hB := (HR.out.nil hf).B
    exact ⟨by rw [← HVT.out]; exact hB.cell 0, by rw [← HV3.out]; exact hB.cell 2, by rw [← HV4.out]; exact hB.cell 3⟩
  obtain ⟨i3, hi3, hz3, hs3, hb3⟩ := info_parts ints_info
  clear hR hN hv3 hv4 hvT hnh hnq
  go_enter Try.func60, Try.ntmps60
  go_wp2_with fail
  go_loopw [3, 4] (fun v j wr => ∃ i : Nat, i ≤ N ∧ j = .int .i64 i ∧ Hid (Lst wr w.heap.size 31 1 v i ((R.ts.map Dt.v1).take i) ∧ Fr [] w wr)) (fun _ j _ => N - (intOf j).toNat)
  case atStart => exact ⟨0, by omega, rfl, Lst.nil _ _ _ _, Fr.refl _ _⟩
  case round =>
    obtain ⟨i, hi, rfl, hx⟩ := hrel
    have HL := Lib.hid hx.out.1
    have HW := Lib.hid hx.out.2
    clear hx c0
    obtain ⟨c0, c2, c3'⟩ := HNil.out _ HW.out
    have hsz := HW.out.size
    by_cases hlt : i < N
    · obtain ⟨t, ht⟩ : ∃ t, R.ts[i]? = some t := ⟨_, List.getElem?_eq_getElem (by have := HN.out; omega)⟩
      obtain ⟨gt, off, cap, hv, hgl, ct1, ct2, _⟩ := (HR.out.nil HW.out).t_at ht
      obtain ⟨A1, p1, hv1, _, _⟩ := (HR.out.slots ht).look
      obtain ⟨L, hL⟩ : ∃ L, t.ls.flatten.length = L := ⟨_, rfl⟩
      rw [hL] at hv1
      rw [hv1] at ct1
      have hvT := HVT.out
      rw [hv] at hvT
      injection hvT with hvT1 hvT2 hvT3
      subst hvT1 hvT3
      have HTK : Hid ((R.ts.map Dt.v1).take (i + 1) = (R.ts.map Dt.v1).take i ++ [.slice A1 L p1]) := by
        have h1 : (R.ts.map Dt.v1)[i]? = some (.slice A1 L p1) := by rw [List.getElem?_map, ht, ← hv1]; rfl
        obtain ⟨h1, h2⟩ := List.getElem?_eq_some_iff.1 h1
        show _ = _
        rw [List.take_succ_eq_append_getElem h1, h2]
      have k1 : (0 : Int) ≤ (i : Int) := by omega
      have k2 : (i : Int) < (N : Int) := by omega
      clear ht hv hvT2 hv1 hL ct2 c2 c3'
      go_wp2_with (at_builtin; refine wpList_append_lst _ rfl (.tmp 14) (.tmp 23) _ rfl w.heap.size 31 i3 _ 1 24 Try.underlying41 hi3 hz3 hs3 hb3 rfl _ i ((R.ts.map Dt.v1).take i) rfl (HL.out.alloc _) ⟨wr.heap.size, 0, none⟩ 1 1 [.slice A1 L p1] rfl rfl (World.news_of_block (heap_alloc_new _ _)) ?c2 ?c3 ?c4 ?c5 ?c6)
      case c2 => simp [Value.oneCell']
      case c3 => unfold maxLen; omega
      case c4 => omega
      case c5 => first | omega | (simp; omega)
      case c6 =>
        intro v2 w2 hown hgrow hat
        have HX : Hid (Lst w2 w.heap.size 31 1 v2 (i + 1) ((R.ts.map Dt.v1).take (i + 1)) ∧ Fr [] w w2) := by
          refine ⟨?_, (HW.out.alloc _).grown hgrow (fun j hj => .inr (HL.out.lt j hj).1)⟩
          rw [HTK.out]
          exact hown
        clear hown hgrow hat
        go_wp2
        go_roundw
        case rel => exact ⟨i + 1, by omega, by go_num, HX.out⟩
        case measure => simp [intOf]; omega
    · obtain rfl : N = i := by omega
      have hall : (R.ts.map Dt.v1).take N = R.ts.map Dt.v1 := List.take_of_length_le (by rw [List.length_map, HN.out]; exact Nat.le_refl _)
      rw [hall] at HL
      clear hall hlt hi
      obtain ⟨Av, cv, rfl, _, _⟩ := HL.out.look
      have k3 : decide ((N : Int) < (N : Int)) = false := decide_eq_false (by omega)
      have HLZ : Hid (∀ {Z : World}, Fr [] wr Z → Lst Z w.heap.size 31 1 (.slice Av N cv) N (R.ts.map Dt.v1)) := fun {Z} hf => HL.out.fr hf (by simp)
      have HEND : Hid (∀ v2 w2 Z, Fr [] wr Z → Lst w2 w.heap.size 31 1 v2 (N + 2) (R.ts.map Dt.v1 ++ [.slice A3 nh c3, .slice A4 nq c4]) → Z.grownBy w2 (Value.slice Av N cv).ownBlock → (∃ v, Ending.returned v2 = Ending.returned v ∧ Lst w2 w.heap.size 31 1 v (R.ts.length + 2) R.vs ∧ Fr [] w w2)) := fun v2 w2 Z hf h1 h2 =>
        ⟨v2, rfl, by rw [HN.out, HVS.out]; exact h1, (HW.out.trans hf (by simp)).grown h2 (fun j hj => .inr (HL.out.lt j hj).1)⟩
      go_upto_region 6 with fail
      go_region_law (refine step_append_lst _ (by rfl) _ _ _ (by rfl) w.heap.size 31 i3 _ 1 24 Try.underlying41 hi3 hz3 hs3 hb3 rfl (.slice Av N cv) N (R.ts.map Dt.v1) (by rfl) (HLZ.out (by repeat (first | exact Fr.refl _ _ | refine Fr.drew ?_ | refine Fr.alloc ?_ _))) ⟨wr.heap.size, 0, none⟩ 2 2 [.slice A3 nh c3, .slice A4 nq c4] (by rfl) (by rfl) (World.news_of_block (cs := #[.slice A3 nh c3, .slice A4 nq c4]) (t := 31) (fr := (0, 0)) (Bk.new_at _ _ _ _ (by simp))) (by simp [Value.oneCell']) (by unfold maxLen; omega) (by omega) (by first | omega | (simp; omega)) ?_; intro v2 w2 hown1 hgrow hat; have HE := Lib.hid (HEND.out v2 w2 _ (by repeat (first | exact Fr.refl _ _ | refine Fr.drew ?_ | refine Fr.alloc ?_ _)) hown1 hgrow); clear hown1 hgrow hat)
      all_goals
        go_wp2_with fail
        go_ret
        exact HE.out
end Go.Proofs.Ytdjemkgnhohcdaa
namespace Go.Proofs.Ytdjemkgnhohcdaa
open Go.RowKit
set_option linter.unusedVariables false

def Dr.Ls (R : Dr) : List (List Int) := R.ts.map (fun t => t.ls.flatten) ++ [hsL R.hs, R.q]
theorem Dr.Ls_len (R : Dr) : R.Ls.length = R.ts.length + 2 := by simp [Dr.Ls]
theorem DT.vs_at {b0 : Nat} {w : World} {g : Nat} {R : Dr} (h : DT b0 w g R) {i : Nat} (hi : i < R.ts.length + 2) : ∃ v l, R.vs[i]? = some v ∧ R.Ls[i]? = some l ∧ Lst w b0 3 1 v l.length (iV l) := by
  by_cases h1 : i < R.ts.length
  · have ht : R.ts[i]? = some R.ts[i] := List.getElem?_eq_getElem h1
    refine ⟨R.ts[i].v1, R.ts[i].ls.flatten, ?_, ?_, h.slots ht⟩
    · unfold Dr.vs
      rw [List.getElem?_append_left (by simpa using h1), List.getElem?_map, ht]
      rfl
    · unfold Dr.Ls
      rw [List.getElem?_append_left (by simpa using h1), List.getElem?_map, ht]
      rfl
  · by_cases h2 : i = R.ts.length
    · refine ⟨R.vh, hsL R.hs, ?_, ?_, ?_⟩
      · unfold Dr.vs
        rw [List.getElem?_append_right (by simp; omega), h2]
        simp
      · unfold Dr.Ls
        rw [List.getElem?_append_right (by simp; omega), h2]
        simp
      · have := h.H
        simpa [hsL] using this
    · have h3 : i = R.ts.length + 1 := by omega
      refine ⟨R.vq, R.q, ?_, ?_, h.Q⟩
      · unfold Dr.vs
        rw [List.getElem?_append_right (by simp; omega), h3]
        simp
      · unfold Dr.Ls
        rw [List.getElem?_append_right (by simp; omega), h3]
        simp
theorem pos_hsL : ∀ hs : List (Bool × Int), pos (hsL hs) = pos (hs.map hv)
  | [] => rfl
  | p :: hs => by
    have e : hsL (p :: hs) = (if p.1 then p.2 else -1) :: hsL hs := rfl
    rw [e, List.map_cons, pos_cons, pos_cons, pos_hsL hs]
    unfold hv
    cases p.1 <;> simp
theorem Dr.pos_Ls (R : Dr) : pos R.Ls.flatten = rootsA R.abs := by
  rw [rootsA_pos]
  unfold flat Dr.Ls
  rw [List.flatten_append, pos_append, pos_append, pos_append]
  have e : (R.ts.map (fun t => t.ls.flatten)).flatten = R.abs.ths.flatten.flatten := by
    unfold Dr.abs
    simp only
    generalize R.ts = l
    induction l with
    | nil => rfl
    | cons t l ih =>
      simp only [List.map_cons, List.flatten_cons, List.flatten_append, ih]
  rw [e]
  simp only [List.flatten_cons, List.flatten_nil, List.append_nil]
  rw [pos_append, pos_hsL]
  simp only [List.append_assoc]
  rfl
theorem sum_le8 (l : List (List Int)) (B : Nat) (h : ∀ x ∈ l, x.length ≤ B) : l.flatten.length ≤ l.length * B := by
  induction l with
  | nil => simp
  | cons x l ih =>
    have h1 := ih (fun y hy => h y (by simp [hy]))
    have h2 := h x (by simp)
    rw [List.flatten_cons, List.length_append, List.length_cons, Nat.add_mul, Nat.one_mul]
    omega
theorem DT.Ls_small {b0 : Nat} {w : World} {g : Nat} {R : Dr} (h : DT b0 w g R) (hq : R.q.length ≤ 5000000000000) : R.Ls.flatten.length ≤ 5000000100000 := by
  unfold Dr.Ls
  rw [List.flatten_append, List.length_append]
  have h1 := sum_le8 (R.ts.map (fun t => t.ls.flatten)) 4096 (fun x hx => by
    obtain ⟨t, ht, rfl⟩ := List.mem_map.1 hx
    rw [flatten_len]
    have := h.room t ht
    have := h.ok.2.1
    omega)
  rw [List.length_map] at h1
  have h2 := h.ok.1
  have h3 := h.ok.2.2
  have h4 : (hsL R.hs).length = R.hs.length := by simp [hsL]
  have h5 : R.ts.length * 4096 ≤ 8 * 4096 := Nat.mul_le_mul_right _ h2
  simp only [List.flatten_cons, List.flatten_nil, List.append_nil, List.length_append]
  omega
theorem pos_len (l : List Int) : (pos l).length ≤ l.length := List.length_filter_le _ _
theorem pos_snoc (l : List Int) (x : Int) : pos (l ++ [x]) = if 0 < x then pos l ++ [x] else pos l := by
  rw [pos_append, pos_cons]
  split <;> simp [pos]

set_option maxRecDepth 100000 in
set_option maxHeartbeats 3200000 in
theorem dall_any {b0 : Nat} {w : World} {g : Nat} {a : RA} {F : List Nat} (h : DS b0 w g a F) (hl : a.q.length ≤ 5000000000000) :
    Calls Try.prog 54 #[.pointer (some ⟨g, 0, none⟩)] w (NewL (rootsA a) w) := by
  obtain ⟨R, hR, rfl, rfl⟩ := h
  have HI := Lib.hid (dlists_any hR)
  have HSM := Lib.hid (hR.Ls_small hl)
  have HPL := Lib.hid R.pos_Ls
  have HR := Lib.hid hR
  have HLL := Lib.hid R.Ls_len
  have hN8 := hR.ok.1
  obtain ⟨N, hN⟩ : ∃ N, R.ts.length = N := ⟨_, rfl⟩
  have HN := Lib.hid hN
  rw [hN] at HI hN8 HLL
  obtain ⟨i2, hi2, hz2, hs2, hb2⟩ := info_parts int_info
  clear hR hN
  go_enter Try.func54, Try.ntmps54
  go_wp2_with fail
  refine (Calls.mono HI.out ?_)
  rintro e w1 ⟨lv, rfl, hlv, hf1⟩
  obtain ⟨lb, lo, lc, rfl, hlb0, hlb, hlc, _, _, _, hcl⟩ := hlv.form (by omega)
  have HLV := Lib.hid hlv
  have HF1 := Lib.hid hf1
  clear hlv hf1 hcl
  go_wp2_with fail
  go_loopw [3, 5] (fun v j wr => ∃ i : Nat, i ≤ N + 2 ∧ j = .int .i64 i ∧ Hid (Lst wr w1.heap.size 3 1 v (pos (R.Ls.take i).flatten).length (iV (pos (R.Ls.take i).flatten)) ∧ Fr [] w1 wr)) (fun _ j _ => N + 2 - (intOf j).toNat)
  case atStart => exact ⟨0, by omega, rfl, Lst.nil _ _ _ _, Fr.refl _ _⟩
  case round =>
    obtain ⟨i, hi, rfl, hx⟩ := hrel
    have HL := Lib.hid hx.out.1
    have HW := Lib.hid hx.out.2
    clear hx
    by_cases hlt : i < N + 2
    · obtain ⟨vi, li, hvi, hli, hvl⟩ := HR.out.vs_at (i := i) (by have := HN.out; omega)
      have HVL := Lib.hid (hvl.fr HF1.out (by simp))
      obtain ⟨Ai, ci, rfl, hc1, hc2⟩ := hvl.look
      obtain ⟨n, hn⟩ : ∃ n, li.length = n := ⟨_, rfl⟩
      have HNL := Lib.hid hn
      rw [hn] at hvi hvl HVL hc1
      have hnn : n ≤ 9223372036854775807 := by unfold maxLen at hc2; omega
      obtain ⟨lb', lo', lc', hq', _, _, _, _, _, _, hcl⟩ := HLV.out.form (by omega)
      injection hq' with hq1 hq2 hq3
      injection hq1 with hq1
      injection hq1 with hq1 hq4
      subst hq1 hq4
      have HCL : Hid (∀ Z, Fr [] w1 Z → Z.cell? ⟨lb, lo + i, none⟩ = some (.slice Ai n ci)) := fun Z hf => by
        have h1 := hcl i _ hvi
        rw [World.cell?_of_block (hf.block lb hlb (by simp))]
        exact h1
      have HLT : Hid ((R.Ls.take (i + 1)).flatten = (R.Ls.take i).flatten ++ li) := by
        obtain ⟨q1, q2⟩ := List.getElem?_eq_some_iff.1 hli
        show _ = _
        rw [List.take_succ_eq_append_getElem q1, q2, List.flatten_append]
        simp
      have k1 : (0 : Int) ≤ (i : Int) := by omega
      have k2 : (i : Int) < ((N + 2 : Nat) : Int) := by omega
      have k3 : (i : Int) < (N : Int) + 2 := by omega
      clear hvi hli hvl hn hcl hq3
      obtain ⟨wo, rfl⟩ : ∃ wo, wo = wr := ⟨_, rfl⟩
      go_wp2_with fail
      go_loopw [3, 6] (fun v j wr => ∃ x : Nat, x ≤ n ∧ j = .int .i64 x ∧ Hid (Lst wr w1.heap.size 3 1 v (pos ((R.Ls.take i).flatten ++ li.take x)).length (iV (pos ((R.Ls.take i).flatten ++ li.take x))) ∧ Fr [] w1 wr)) (fun _ j _ => n - (intOf j).toNat)
      case atStart => exact ⟨0, by omega, rfl, by simpa using HL.out, HW.out⟩
      case round =>
        obtain ⟨x, hxn, rfl, hx⟩ := hrel
        have HL2 := Lib.hid hx.out.1
        have HW2 := Lib.hid hx.out.2
        clear hx
        have cv := HCL.out _ HW2.out
        by_cases hxl : x < n
        · obtain ⟨y, hy⟩ : ∃ y, li[x]? = some y := ⟨_, List.getElem?_eq_getElem (by have := HNL.out; omega)⟩
          obtain ⟨ib, io, ic, hq, _, _, _, _, _, _, hcl⟩ := (HVL.out.fr HW2.out (by simp)).form (by omega)
          injection hq with hq1 hq2 hq3
          subst hq1 hq3
          have cy := hcl x _ (iV_at hy)
          have HTX : Hid ((R.Ls.take i).flatten ++ li.take (x + 1) = ((R.Ls.take i).flatten ++ li.take x) ++ [y]) := by
            obtain ⟨q1, q2⟩ := List.getElem?_eq_some_iff.1 hy
            show _ = _
            rw [List.take_succ_eq_append_getElem q1, q2, List.append_assoc]
          have hle : (pos ((R.Ls.take i).flatten ++ li.take x)).length + 1 ≤ 5000000100000 := by
            have h1 := pos_len ((R.Ls.take i).flatten ++ li.take x)
            have h2 : ((R.Ls.take i).flatten ++ li.take (x + 1)).length ≤ R.Ls.flatten.length := by
              have h3 : (R.Ls.take i).flatten ++ li.take (x + 1) = ((R.Ls.take (i + 1)).flatten).take ((R.Ls.take i).flatten.length + (x + 1)) := by
                rw [HLT.out, List.take_append, List.take_of_length_le (Nat.le_add_right _ _), Nat.add_sub_cancel_left]
              have h4 : R.Ls.flatten = (R.Ls.take (i + 1)).flatten ++ (R.Ls.drop (i + 1)).flatten := by rw [← List.flatten_append, List.take_append_drop]
              rw [h3, h4, List.length_take, List.length_append]
              omega
            have h5 := HSM.out
            rw [HTX.out, List.length_append, List.length_cons, List.length_nil] at h2
            omega
          have k4 : (0 : Int) ≤ (x : Int) := by omega
          have k5 : (x : Int) < (n : Int) := by omega
          have k6 : decide ((x : Int) < (n : Int)) = true := decide_eq_true k5
          clear hcl hy hq2
          by_cases h0 : 0 < y
          · have k7 : decide (0 < y) = true := decide_eq_true h0
            have HTP : Hid (pos ((R.Ls.take i).flatten ++ li.take (x + 1)) = pos ((R.Ls.take i).flatten ++ li.take x) ++ [y]) := by
              show _ = _
              rw [HTX.out, pos_snoc, if_pos h0]
            obtain ⟨P, hP⟩ : ∃ P, pos ((R.Ls.take i).flatten ++ li.take x) = P := ⟨_, rfl⟩
            rw [hP] at HL2 HTP hle
            obtain ⟨pl, hpl⟩ : ∃ pl, P.length = pl := ⟨_, rfl⟩
            have HPP := Lib.hid hpl
            rw [hpl] at HL2 hle
            have hsz := HW2.out.size
            clear hP hpl
            go_wp2_with (at_builtin; refine wpList_append_lst _ rfl (.tmp 32) (.tmp 40) _ rfl w1.heap.size 3 i2 _ 1 8 Try.underlying31 hi2 hz2 hs2 hb2 rfl _ pl (iV P) rfl (HL2.out.alloc _) ⟨wr.heap.size, 0, none⟩ 1 1 [.int .i64 y] rfl rfl (World.news_of_block (heap_alloc_new _ _)) ?c2 ?c3 ?c4 ?c5 ?c6)
            case c2 => simp [Value.oneCell']
            case c3 => unfold maxLen; omega
            case c4 => omega
            case c5 => first | omega | (simp; omega)
            case c6 =>
              intro v2 w2 hown hgrow hat
              have HX : Hid (Lst w2 w1.heap.size 3 1 v2 (pos ((R.Ls.take i).flatten ++ li.take (x + 1))).length (iV (pos ((R.Ls.take i).flatten ++ li.take (x + 1)))) ∧ Fr [] w1 w2) := by
                refine ⟨?_, (HW2.out.alloc _).grown hgrow (fun j hj => .inr (HL2.out.lt j hj).1)⟩
                rw [HTP.out, List.length_append, HPP.out]
                unfold iV at hown ⊢
                rw [List.map_append]
                exact hown
              clear hown hgrow hat
              go_wp2
              go_roundw
              case rel => exact ⟨x + 1, by omega, by go_num, HX.out⟩
              case measure => simp [intOf]; omega
          · have k7 : decide (0 < y) = false := decide_eq_false h0
            have HTP : Hid (pos ((R.Ls.take i).flatten ++ li.take (x + 1)) = pos ((R.Ls.take i).flatten ++ li.take x)) := by
              show _ = _
              rw [HTX.out, pos_snoc, if_neg h0]
            go_wp2_with fail
            go_roundw
            case rel => exact ⟨x + 1, by omega, by go_num, by rw [HTP.out]; exact HL2.out, HW2.out⟩
            case measure => simp [intOf]; omega
        · obtain rfl : n = x := by omega
          have HX : Hid (Lst wr w1.heap.size 3 1 u3 (pos (R.Ls.take (i + 1)).flatten).length (iV (pos (R.Ls.take (i + 1)).flatten)) ∧ Fr [] w1 wr) := by
            have h1 := HL2.out
            rw [List.take_of_length_le (l := li) (by have := HNL.out; omega), ← HLT.out] at h1
            exact ⟨h1, HW2.out⟩
          have k6 : decide ((n : Int) < (n : Int)) = false := decide_eq_false (by omega)
          go_wp2_with fail
          go_roundw
          case rel => exact ⟨i + 1, by omega, by go_num, HX.out⟩
          case measure => simp [intOf]; omega
    · obtain rfl : i = N + 2 := by omega
      have HX : Hid (Lst wr w1.heap.size 3 1 u3 (rootsA R.abs).length (iV (rootsA R.abs))) := by
        have h1 := HL.out
        rw [List.take_of_length_le (by have := HLL.out; omega), HPL.out] at h1
        exact h1
      have k6 : decide (((N + 2 : Nat) : Int) < ((N + 2 : Nat) : Int)) = false := decide_eq_false (by omega)
      have k7 : decide ((N : Int) + 2 < (N : Int) + 2) = false := decide_eq_false (by omega)
      go_wp2_with fail
      go_ret
      exact ⟨_, rfl, HX.out.mono HF1.out.size, HF1.out.trans HW.out (by simp)⟩
end Go.Proofs.Ytdjemkgnhohcdaa
namespace Go.Proofs.Ytdjemkgnhohcdaa
open Go.RowKit
set_option linter.unusedVariables false

theorem flat2_inv {α β : Type} (f : α → β) (f' : α → β) : ∀ (l : List α) (m : Nat) (x : β), (l.flatMap (fun t => [f t, f' t]))[m]? = some x → ∃ (k : Nat) (t : α), l[k]? = some t ∧ ((m = k * 2 ∧ x = f t) ∨ (m = k * 2 + 1 ∧ x = f' t))
  | [], m, x, h => by simp at h
  | a :: l, m, x, h => by
    have e : (a :: l).flatMap (fun t => [f t, f' t]) = f a :: f' a :: l.flatMap (fun t => [f t, f' t]) := by simp
    rw [e] at h
    match m, h with
    | 0, h => exact ⟨0, a, rfl, .inl ⟨rfl, by simpa using h.symm⟩⟩
    | 1, h => exact ⟨0, a, rfl, .inr ⟨rfl, by simpa using h.symm⟩⟩
    | m + 2, h =>
      obtain ⟨k, t, h1, h2⟩ := flat2_inv f f' l m x (by simpa using h)
      refine ⟨k + 1, t, by simpa using h1, ?_⟩
      rcases h2 with ⟨h2, h3⟩ | ⟨h2, h3⟩
      · exact .inl ⟨by omega, h3⟩
      · exact .inr ⟨by omega, h3⟩
theorem Dr.M_inv {R : Dr} {m : Nat} {p : Value × List Int} (h : R.M[m]? = some p) : (m = 0 ∧ p = (R.vh, hsL R.hs)) ∨ (m = 1 ∧ p = (R.vq, R.q)) ∨ ∃ (k : Nat) (t : Dt), R.ts[k]? = some t ∧ ((m = k * 2 + 2 ∧ p = (t.v1, t.ls.flatten)) ∨ (m = k * 2 + 3 ∧ p = (t.v2, begL t.ls))) := by
  rw [R.M_eq] at h
  match m, h with
  | 0, h => exact .inl ⟨rfl, by simpa using h.symm⟩
  | 1, h => exact .inr (.inl ⟨rfl, by simpa using h.symm⟩)
  | m + 2, h =>
    obtain ⟨k, t, h1, h2⟩ := flat2_inv (fun t : Dt => (t.v1, t.ls.flatten)) (fun t : Dt => (t.v2, begL t.ls)) R.ts m p (by simpa using h)
    refine .inr (.inr ⟨k, t, h1, ?_⟩)
    rcases h2 with ⟨h2, h3⟩ | ⟨h2, h3⟩
    · exact .inl ⟨by omega, h3⟩
    · exact .inr ⟨by omega, h3⟩

section
variable (y : List Int → Int → Int)
theorem foldH_hsL : ∀ (hs : List (Bool × Int)) (pre : List Int) (acc : List (Bool × Int)), (hs.foldl (stepH y) (pre, acc)).1 = (trL y pre (hsL hs)).1 ∧ hsL (hs.foldl (stepH y) (pre, acc)).2 = hsL acc ++ (trL y pre (hsL hs)).2
  | [], pre, acc => by simp [trL, hsL]
  | p :: hs, pre, acc => by
    have e0 : hsL (p :: hs) = (if p.1 then p.2 else -1) :: hsL hs := rfl
    rw [List.foldl_cons, e0, trL_one]
    have ha : ∀ q : Bool × Int, hsL (acc ++ [q]) = hsL acc ++ [if q.1 then q.2 else -1] := fun q => by simp [hsL]
    obtain ⟨o, x⟩ := p
    by_cases h : o = true ∧ 0 < x
    · have e : stepH y (pre, acc) (o, x) = (pre ++ [x], acc ++ [(true, y pre x)]) := by unfold stepH; rw [if_pos h]
      have e2 : stepL y (pre, []) (if o then x else -1) = (pre ++ [x], [y pre x]) := by unfold stepL; simp [h.1, h.2]
      obtain ⟨h1, h2⟩ := foldH_hsL hs (pre ++ [x]) (acc ++ [(true, y pre x)])
      rw [e, e2, h1, h2, ha]
      simp
    · have e : stepH y (pre, acc) (o, x) = (pre, acc ++ [(o, x)]) := by unfold stepH; rw [if_neg h]
      have e2 : stepL y (pre, []) (if o then x else -1) = (pre, [if o then x else -1]) := by
        unfold stepL
        rw [if_neg]
        · rfl
        · cases o with
          | true => simpa using h
          | false => simp
      obtain ⟨h1, h2⟩ := foldH_hsL hs pre (acc ++ [(o, x)])
      rw [e, e2, h1, h2, ha]
      simp
/-- What all lists become, list by list. -/
theorem foldF_app (fs gs : List (List Int)) (pre : List Int) : trF y pre (fs ++ gs) = ((trF y (trF y pre fs).1 gs).1, (trF y pre fs).2 ++ (trF y (trF y pre fs).1 gs).2) := by
  have acc : ∀ (gs : List (List Int)) (pre : List Int) (a : List (List Int)), gs.foldl (stepF y) (pre, a) = ((trF y pre gs).1, a ++ (trF y pre gs).2) := fun gs => by
    induction gs with
    | nil => intro pre a; simp [trF]
    | cons l gs ih =>
      intro pre a
      unfold trF
      rw [List.foldl_cons, List.foldl_cons]
      have e : ∀ a, stepF y (pre, a) l = ((trL y pre l).1, a ++ [(trL y pre l).2]) := fun a => rfl
      rw [e, e, ih, ih]
      simp
  show (fs ++ gs).foldl (stepF y) (pre, []) = _
  rw [List.foldl_append]
  have e : fs.foldl (stepF y) (pre, []) = ((trF y pre fs).1, (trF y pre fs).2) := rfl
  rw [e, acc]
theorem foldT_flatF : ∀ (ts : List (List (List Int))) (pre : List Int) (acc : List (List (List Int))), (ts.foldl (stepT y) (pre, acc)).1 = (trF y pre (ts.map List.flatten)).1 ∧ (ts.foldl (stepT y) (pre, acc)).2.map List.flatten = acc.map List.flatten ++ (trF y pre (ts.map List.flatten)).2
  | [], pre, acc => by simp [trF]
  | fs :: ts, pre, acc => by
    rw [List.foldl_cons]
    have e : stepT y (pre, acc) fs = ((trF y pre fs).1, acc ++ [(trF y pre fs).2]) := rfl
    obtain ⟨h1, h2⟩ := foldT_flatF ts (trF y pre fs).1 (acc ++ [(trF y pre fs).2])
    obtain ⟨k1, k2, k3⟩ := foldF_flat y fs pre []
    have k1 : (trF y pre fs).1 = _ := k1
    have k2 : (trF y pre fs).2.flatten = _ := k2
    have e3 : trF y pre ((fs :: ts).map List.flatten) = ((trF y (trL y pre fs.flatten).1 (ts.map List.flatten)).1, (trL y pre fs.flatten).2 :: (trF y (trL y pre fs.flatten).1 (ts.map List.flatten)).2) := by
      have := foldF_app y [fs.flatten] (ts.map List.flatten) pre
      rw [List.map_cons]
      exact this
    rw [e, h1, h2, e3, k1]
    simp [k2]
theorem upd_Ls (R : Dr) : (updA y R.abs).2.ths.map List.flatten ++ [hsL (updA y R.abs).2.hs, (updA y R.abs).2.q] = (trF y [] R.Ls).2 := by
  have e : R.Ls = R.abs.ths.map List.flatten ++ [hsL R.hs, R.q] := by
    unfold Dr.Ls Dr.abs
    rw [List.map_map]
    rfl
  rw [e, foldF_app]
  obtain ⟨t1, t2⟩ := foldT_flatF y R.abs.ths [] []
  have t1 : (trT y [] R.abs.ths).1 = _ := t1
  have t2 : (trT y [] R.abs.ths).2.map List.flatten = _ := t2
  obtain ⟨h1, h2⟩ := foldH_hsL y R.abs.hs (trT y [] R.abs.ths).1 []
  have h1 : (trH y (trT y [] R.abs.ths).1 R.abs.hs).1 = _ := h1
  have h2 : hsL (trH y (trT y [] R.abs.ths).1 R.abs.hs).2 = _ := h2
  unfold updA
  simp only
  rw [h2, t2, h1, t1]
  simp only [List.map_nil, List.nil_append]
  congr 1
end
/-- The document's roots with everything told anew. -/
def Dr.upd (R : Dr) (a' : RA) : Dr := { R with ts := List.zipWith (fun t l => (⟨t.v1, t.v2, l⟩ : Dt)) R.ts a'.ths, hs := a'.hs, q := a'.q }
theorem Dr.upd_at {R : Dr} {a' : RA} {k : Nat} {t' : Dt} (h : (R.upd a').ts[k]? = some t') : ∃ t l, R.ts[k]? = some t ∧ a'.ths[k]? = some l ∧ t' = ⟨t.v1, t.v2, l⟩ := by
  unfold Dr.upd at h
  simp only [List.getElem?_zipWith] at h
  cases h1 : R.ts[k]? with
  | none => rw [h1] at h; cases a'.ths[k]? <;> simp at h
  | some t =>
    cases h2 : a'.ths[k]? with
    | none => rw [h1, h2] at h; simp at h
    | some l =>
      rw [h1, h2] at h
      exact ⟨t, l, rfl, rfl, by simpa using h.symm⟩
/-- All values, and what lies there. -/
def VsIs (w : World) (b0 : Nat) (vs : List Value) (cs : List (List Int)) : Prop := ∀ (j : Nat) (v : Value) (c : List Int), vs[j]? = some v → cs[j]? = some c → Lst w b0 3 1 v c.length (iV c)
def Dr.vb (R : Dr) : List Nat := R.vs.flatMap (fun v => v.ownBlock.toList)
theorem Dr.vb_in {R : Dr} {x : Nat} (h : x ∈ R.vb) : ∃ (j : Nat) (v : Value), R.vs[j]? = some v ∧ v.ownBlock = some x := by
  unfold Dr.vb at h
  rw [List.mem_flatMap] at h
  obtain ⟨v, hv, hx⟩ := h
  obtain ⟨j, hj⟩ := List.mem_iff_getElem?.1 hv
  exact ⟨j, v, hj, by simpa using hx⟩
/-- Where a value of the lists stands among all. -/
theorem Dr.vs_M {R : Dr} {j : Nat} {v : Value} (h : R.vs[j]? = some v) : ∃ (m : Nat) (l : List Int), R.M[m]? = some (v, l) ∧ ((j < R.ts.length ∧ m = j * 2 + 2) ∨ (j = R.ts.length ∧ m = 0) ∨ (j = R.ts.length + 1 ∧ m = 1)) := by
  unfold Dr.vs at h
  by_cases h1 : j < R.ts.length
  · rw [List.getElem?_append_left (by simpa using h1), List.getElem?_map, List.getElem?_eq_getElem h1] at h
    have h : R.ts[j].v1 = v := by simpa using h
    exact ⟨_, _, by rw [← h]; exact (Dr.Mt (List.getElem?_eq_getElem h1)).1, .inl ⟨h1, rfl⟩⟩
  · rw [List.getElem?_append_right (by simp; omega), List.length_map] at h
    by_cases h2 : j = R.ts.length
    · rw [h2] at h
      have h : R.vh = v := by simpa using h
      exact ⟨0, _, by rw [← h]; exact R.M0, .inr (.inl ⟨h2, rfl⟩)⟩
    · by_cases h3 : j = R.ts.length + 1
      · rw [h3, show R.ts.length + 1 - R.ts.length = 1 by omega] at h
        have h : R.vq = v := by simpa using h
        exact ⟨1, _, by rw [← h]; exact R.M1, .inr (.inr ⟨h3, rfl⟩)⟩
      · rw [List.getElem?_eq_none (by simp; omega)] at h
        cases h
theorem DT.vs_apart {b0 : Nat} {w : World} {g : Nat} {R : Dr} (h : DT b0 w g R) {i j : Nat} {u v : Value} (hij : i ≠ j) (hu : R.vs[i]? = some u) (hv : R.vs[j]? = some v) : ∀ k, u.ownBlock = some k → v.ownBlock ≠ some k := fun k hk => by
  obtain ⟨m, l, m1, m2⟩ := Dr.vs_M hu
  obtain ⟨m', l', m1', m2'⟩ := Dr.vs_M hv
  exact h.P.apart m m' _ _ k (by omega) m1 m1' hk
theorem DT.vb_M {b0 : Nat} {w : World} {g : Nat} {R : Dr} (h : DT b0 w g R) : ∀ x ∈ R.vb, x ∈ footM R.M := fun x hx => by
  obtain ⟨j, v, hj, hv⟩ := Dr.vb_in hx
  obtain ⟨m, l, m1, _⟩ := Dr.vs_M hj
  exact footM_at m1 hv
/-- Everything laid anew, where it lay. -/
theorem DT.laid {b0 : Nat} {w w' : World} {g : Nat} {R : Dr} {y : List Int → Int → Int} (h : DT b0 w g R) (hy : ∀ pre x, 0 ≤ y pre x) (hf : Fr R.vb w w') (hV : VsIs w' b0 R.vs (trF y [] R.Ls).2) (r : Value) :
    DO b0 g (updA y R.abs).2 (R.foot g) r w (.returned r) w' := by
  obtain ⟨a', ha'⟩ : ∃ a', (updA y R.abs).2 = a' := ⟨_, rfl⟩
  have hL : a'.ths.map List.flatten ++ [hsL a'.hs, a'.q] = (trF y [] R.Ls).2 := by rw [← ha']; exact upd_Ls y R
  obtain ⟨_, _, t3⟩ := foldT_flat y R.abs.ths [] []
  have t3 : a'.ths.map (fun fs => fs.map List.length) = R.abs.ths.map (fun fs => fs.map List.length) := by
    rw [List.map_nil, List.nil_append] at t3
    rw [← ha']
    exact t3
  have hlt : a'.ths.length = R.ts.length := by have := congrArg List.length t3; simpa [Dr.abs] using this
  have hlens : ∀ (k : Nat) (t : Dt) (l : List (List Int)), R.ts[k]? = some t → a'.ths[k]? = some l → l.map List.length = t.ls.map List.length := fun k t l h1 h2 => by
    have e := congrArg (fun z => z[k]?) t3
    simp only [List.getElem?_map, h2] at e
    have e2 : R.abs.ths[k]? = some t.ls := by unfold Dr.abs; simp [h1]
    rw [e2] at e
    simpa using e
  have hS : a'.S = R.S := by rw [← ha']; rfl
  have habs : (R.upd a').abs = a' := by
    have e : (List.zipWith (fun t l => (⟨t.v1, t.v2, l⟩ : Dt)) R.ts a'.ths).map Dt.ls = a'.ths := by
      apply List.ext_getElem?
      intro k
      rw [List.getElem?_map, List.getElem?_zipWith]
      by_cases hk : k < R.ts.length
      · rw [List.getElem?_eq_getElem hk, List.getElem?_eq_getElem (by omega)]
        rfl
      · rw [List.getElem?_eq_none (by omega), List.getElem?_eq_none (l := a'.ths) (by omega)]
        rfl
    unfold Dr.upd Dr.abs
    simp only
    rw [e, ← hS]
  have hvs : (R.upd a').vs = R.vs := by
    have e : (List.zipWith (fun t l => (⟨t.v1, t.v2, l⟩ : Dt)) R.ts a'.ths).map Dt.v1 = R.ts.map Dt.v1 := by
      apply List.ext_getElem?
      intro k
      rw [List.getElem?_map, List.getElem?_zipWith, List.getElem?_map]
      by_cases hk : k < R.ts.length
      · rw [List.getElem?_eq_getElem hk, List.getElem?_eq_getElem (by omega)]
        rfl
      · rw [List.getElem?_eq_none (by omega), List.getElem?_eq_none (l := a'.ths) (by omega)]
    unfold Dr.vs Dr.upd
    simp only
    rw [e]
  have hlen : (R.upd a').ts.length = R.ts.length := by unfold Dr.upd; simp [hlt]
  have hLs : (R.upd a').Ls = (trF y [] R.Ls).2 := by
    rw [← hL]
    have : (R.upd a').ts.map (fun t => t.ls.flatten) = a'.ths.map List.flatten := by
      have := congrArg RA.ths habs
      unfold Dr.abs at this
      rw [← this, List.map_map]
      rfl
    unfold Dr.Ls
    rw [this]
    rfl
  have hold : ∀ (m : Nat) (p : Value × List Int), (R.upd a').M[m]? = some p → ∃ l, R.M[m]? = some (p.1, l) := fun m p hp => by
    rcases Dr.M_inv hp with ⟨rfl, rfl⟩ | ⟨rfl, rfl⟩ | ⟨k, t', ht', h2⟩
    · exact ⟨_, R.M0⟩
    · exact ⟨_, R.M1⟩
    · obtain ⟨t, l, h3, h4, rfl⟩ := Dr.upd_at ht'
      rcases h2 with ⟨rfl, rfl⟩ | ⟨rfl, rfl⟩
      · exact ⟨_, (Dr.Mt h3).1⟩
      · exact ⟨_, (Dr.Mt h3).2⟩
  have hat : ∀ (m : Nat) (p : Value × List Int), (R.upd a').M[m]? = some p → Lst w' b0 3 1 p.1 p.2.length (iV p.2) := fun m p hp => by
    have hvL : ∀ (j : Nat) (v : Value) (c : List Int), (R.upd a').vs[j]? = some v → (R.upd a').Ls[j]? = some c → Lst w' b0 3 1 v c.length (iV c) := fun j v c h1 h2 => by
      rw [hvs] at h1
      rw [hLs] at h2
      exact hV j v c h1 h2
    rcases Dr.M_inv hp with ⟨rfl, rfl⟩ | ⟨rfl, rfl⟩ | ⟨k, t', ht', h2⟩
    · refine hvL (R.upd a').ts.length _ _ ?_ ?_
      · unfold Dr.vs; rw [List.getElem?_append_right (by simp)]; simp
      · unfold Dr.Ls; rw [List.getElem?_append_right (by simp)]; simp
    · refine hvL ((R.upd a').ts.length + 1) _ _ ?_ ?_
      · unfold Dr.vs; rw [List.getElem?_append_right (by simp)]; simp
      · unfold Dr.Ls; rw [List.getElem?_append_right (by simp)]; simp
    · have hk := (List.getElem?_eq_some_iff.1 ht').1
      rcases h2 with ⟨rfl, rfl⟩ | ⟨rfl, rfl⟩
      · refine hvL k _ _ ?_ ?_
        · unfold Dr.vs; rw [List.getElem?_append_left (by simpa using hk), List.getElem?_map, ht']; rfl
        · unfold Dr.Ls; rw [List.getElem?_append_left (by simpa using hk), List.getElem?_map, ht']; rfl
      · obtain ⟨t, l, h3, h4, rfl⟩ := Dr.upd_at ht'
        have e1 : begL l = begL t.ls := begL_lens (hlens k t l h3 h4)
        have m2 := (Dr.Mt h3).2
        show Lst w' b0 3 1 t.v2 (begL l).length (iV (begL l))
        rw [e1]
        refine (h.P.at_ _ _ m2).fr hf (fun x hx hm => ?_)
        obtain ⟨j, v, hj, hv⟩ := Dr.vb_in hm
        obtain ⟨m, l2, m1, m3⟩ := Dr.vs_M hj
        exact h.P.apart (k * 2 + 3) m _ _ x (by omega) m2 m1 hx hv
  have hfoot : ∀ x ∈ Dr.foot (R.upd a') g, x ∈ R.foot g := fun x hx => by
    unfold Dr.foot at hx ⊢
    rw [List.mem_cons, List.mem_append] at hx ⊢
    rcases hx with rfl | hx | hx
    · exact .inl rfl
    · exact .inr (.inl hx)
    · obtain ⟨m, p, hm, hp⟩ := footM_of hx
      obtain ⟨l, hl⟩ := hold m p hm
      exact .inr (.inr (footM_at hl hp))
  have hgP : ∀ x ∈ R.vb, x ≠ g ∧ x ∉ R.vt.ownBlock.toList := fun x hx => h.nog (h.vb_M x hx)
  have hTf : (R.upd a').ts.flatMap (fun t => [t.v1, t.v2]) = R.ts.flatMap (fun t => [t.v1, t.v2]) := by
    apply List.ext_getElem?
    intro m
    have hl2 : ∀ ts : List Dt, (ts.flatMap (fun t => [t.v1, t.v2])).length = ts.length * 2 := fun ts => by
      induction ts with
      | nil => rfl
      | cons a l ih => rw [List.flatMap_cons, List.length_append, ih]; simp; omega
    by_cases hm : m < R.ts.length * 2
    · obtain ⟨x, hx⟩ : ∃ x, ((R.upd a').ts.flatMap (fun t => [t.v1, t.v2]))[m]? = some x := ⟨_, List.getElem?_eq_getElem (by rw [hl2, hlen]; exact hm)⟩
      obtain ⟨k, t', ht', h2⟩ := flat2_inv Dt.v1 Dt.v2 _ m x hx
      obtain ⟨t, l, h3, h4, rfl⟩ := Dr.upd_at ht'
      obtain ⟨g1, g2⟩ := flat2_at Dt.v1 Dt.v2 R.ts k t h3
      rw [hx]
      rcases h2 with ⟨rfl, rfl⟩ | ⟨rfl, rfl⟩
      · exact g1.symm
      · exact g2.symm
    · rw [List.getElem?_eq_none (by rw [hl2, hlen]; omega), List.getElem?_eq_none (by rw [hl2]; omega)]
  rw [ha']
  refine ⟨rfl, Dr.foot (R.upd a') g, ⟨R.upd a', ⟨h.B.fr hf (fun hx => (hgP g hx).1 rfl), ?_, ⟨hat, fun i j p q k hne hi hj hk => ?_⟩, h.gb, ⟨by rw [hlen]; exact h.ok.1, h.ok.2.1, ?_⟩, fun u hu => ?_, fun u hu l hl => ?_, fun p hp => ?_⟩, habs, rfl⟩, hf.mono (fun x hx => .inl ?_), fun x hx => .inl (hfoot x hx)⟩
  · rw [hTf, hlen]
    exact h.Th.fr hf (fun k hk hx => (hgP k hx).2 (by simp [hk]))
  · obtain ⟨l, hl⟩ := hold i p hi
    obtain ⟨l2, hl2⟩ := hold j q hj
    exact h.P.apart i j _ (q.1, l2) k hne hl hl2 hk
  · show a'.hs.length ≤ 1024
    have e : a'.hs.length = (hsL a'.hs).length := by simp [hsL]
    have e2 : (trF y [] R.Ls).2.map List.length = R.Ls.map List.length := by
      obtain ⟨_, _, k3⟩ := foldF_flat y R.Ls [] []
      have k3 : (trF y [] R.Ls).2.map List.length = _ := k3
      simpa using k3
    rw [← hL] at e2
    have e3 := congrArg (fun z => z[R.ts.length]?) e2
    simp only [List.map_append, List.map_cons, List.map_nil] at e3
    rw [List.getElem?_append_right (by simp [hlt])] at e3
    unfold Dr.Ls at e3
    simp only [List.map_append, List.map_cons, List.map_nil] at e3
    rw [List.getElem?_append_right (by simp)] at e3
    simp only [List.length_map, hlt, Nat.sub_self, List.getElem?_cons_zero, Option.some.injEq] at e3
    rw [e, e3]
    simpa [hsL] using h.ok.2.2
  · obtain ⟨k, hk⟩ := List.mem_iff_getElem?.1 hu
    obtain ⟨t, l, h3, h4, rfl⟩ := Dr.upd_at hk
    have := h.room t (List.mem_of_getElem? h3)
    show sumL l ≤ R.S
    unfold sumL at this ⊢
    rw [hlens k t l h3 h4]
    exact this
  · obtain ⟨k, hk⟩ := List.mem_iff_getElem?.1 hu
    obtain ⟨t, l', h3, h4, rfl⟩ := Dr.upd_at hk
    have h1 : l.length ∈ l'.map List.length := List.mem_map_of_mem hl
    rw [hlens k t l' h3 h4] at h1
    obtain ⟨l2, h5, h6⟩ := List.mem_map.1 h1
    have := h.one t (List.mem_of_getElem? h3) l2 h5
    omega
  · obtain ⟨l2, q1, q2, q3⟩ := foldH_at y hy R.abs.hs (trT y [] R.abs.ths).1 []
    have q1 : a'.hs = l2 := by
      rw [List.nil_append] at q1
      rw [← ha']
      exact q1
    have hp : p ∈ l2 := by rw [← q1]; exact hp
    obtain ⟨i, hi⟩ := List.mem_iff_getElem?.1 hp
    have hil := (List.getElem?_eq_some_iff.1 hi).1
    have hR : R.abs.hs[i]? = some R.abs.hs[i] := List.getElem?_eq_getElem (by omega)
    obtain ⟨p', k1, k2, k3⟩ := q3 i _ hR
    rw [hi] at k1
    injection k1 with k1
    subst k1
    rcases k3 with k3 | k3
    · rw [k3]
      exact h.nn _ (List.mem_of_getElem? hR)
    · exact k3.2
  · unfold Dr.foot
    rw [List.mem_cons, List.mem_append]
    exact .inr (.inr (h.vb_M x hx))
end Go.Proofs.Ytdjemkgnhohcdaa
namespace Go.Proofs.Ytdjemkgnhohcdaa
open Go.RowKit
set_option linter.unusedVariables false

theorem trF_pos (y : List Int → Int → Int) (fs : List (List Int)) : (trF y [] fs).1 = pos fs.flatten := by
  obtain ⟨h1, _, _⟩ := foldF_flat y fs [] []
  have h1 : (trF y [] fs).1 = _ := h1
  rw [h1, trL_pos]
  rfl
theorem trF_len (y : List Int → Int → Int) (fs : List (List Int)) (pre : List Int) : (trF y pre fs).2.length = fs.length := by
  obtain ⟨_, _, h3⟩ := foldF_flat y fs pre []
  have h3 : (trF y pre fs).2.map List.length = _ := h3
  have := congrArg List.length h3
  simpa using this
theorem lay_step {y : List Int → Int → Int} {pre li : List Int} {x : Nat} {z : Int} (h : li[x]? = some z) :
    (0 < z → (trL y pre (li.take (x + 1))).1 = (trL y pre (li.take x)).1 ++ [z] ∧ (trL y pre (li.take (x + 1))).2 ++ li.drop (x + 1) = ((trL y pre (li.take x)).2 ++ li.drop x).set x (y (trL y pre (li.take x)).1 z)) ∧
    (¬ 0 < z → (trL y pre (li.take (x + 1))).1 = (trL y pre (li.take x)).1 ∧ (trL y pre (li.take (x + 1))).2 ++ li.drop (x + 1) = (trL y pre (li.take x)).2 ++ li.drop x) ∧ ((trL y pre (li.take x)).2 ++ li.drop x)[x]? = some z := by
  obtain ⟨h1, h2⟩ := List.getElem?_eq_some_iff.1 h
  have hl : (trL y pre (li.take x)).2.length = x := by rw [trL_length, List.length_take]; omega
  have hd : li.drop x = z :: li.drop (x + 1) := by rw [List.drop_eq_getElem_cons h1, h2]
  rw [trL_succ y h]
  refine ⟨fun h0 => ?_, fun h0 => ?_, ?_⟩
  · unfold stepL
    rw [if_pos h0]
    refine ⟨rfl, ?_⟩
    simp only
    rw [List.set_append_right _ _ (by omega), hl, hd, Nat.sub_self]
    simp
  · unfold stepL
    rw [if_neg h0]
    refine ⟨rfl, ?_⟩
    simp only
    rw [hd]
    simp
  · rw [List.getElem?_append_right (by omega), hl, hd]
    simp

set_option maxRecDepth 100000 in
set_option maxHeartbeats 3200000 in
theorem dlay_any {b0 : Nat} {w : World} {g : Nat} {a : RA} {F : List Nat} (h : DS b0 w g a F) (hl : a.q.length ≤ 5000000000000) (A : Option Addr) (na c : Nat) (ans : List Int) (hna : na = ans.length) (hA : RdI w A ans) (hd : ∀ a, dA A ans = some a → a.block ∉ F) :
    Calls Try.prog 55 #[.pointer (some ⟨g, 0, none⟩), .slice A na c] w (DO b0 g (updA (ansA ans) a).2 F (.tuple #[]) w) := by
  obtain ⟨R, hR, rfl, rfl⟩ := h
  have HI := Lib.hid (dlists_any hR)
  have HSM := Lib.hid (hR.Ls_small hl)
  have HR := Lib.hid hR
  have HLL := Lib.hid R.Ls_len
  have hN8 := hR.ok.1
  have HNA := Lib.hid hna
  have hvbF : Hid (∀ x ∈ R.vb, x ∈ R.foot g ∧ x < w.heap.size) := fun x hx => by
    have h1 : x ∈ R.foot g := by
      unfold Dr.foot
      rw [List.mem_cons, List.mem_append]
      exact .inr (.inr (hR.vb_M x hx))
    exact ⟨h1, (hR.foot_lt x h1).2⟩
  have HTO : Hid (∀ Z, Fr R.vb w Z → RdI Z A ans) := fun Z hf => hA.frd hf (fun a ha hx => hd a ha (hvbF.out _ hx).1)
  obtain ⟨N, hN⟩ : ∃ N, R.ts.length = N := ⟨_, rfl⟩
  have HN := Lib.hid hN
  rw [hN] at HI hN8 HLL
  have HA : Hid (∀ (u : Int) (Z : World), Calls Try.prog 59 #[.int .i64 u] Z fun e w' => e = .returned (.int .i64 (max u 0)) ∧ Z = w') := fun u Z => address_any u Z
  have HEND : Hid (∀ Z, Fr R.vb w Z → VsIs Z b0 R.vs (trF (ansA ans) [] R.Ls).2 → DO b0 g (updA (ansA ans) R.abs).2 (R.foot g) (.tuple #[]) w (.returned (.tuple #[])) Z) := fun Z hf hV =>
    hR.laid (fun pre x => by unfold ansA; omega) hf hV _
  have HVS0 : Hid (VsIs w b0 R.vs R.Ls) := fun j v c' h1 h2 => by
    have hj := (List.getElem?_eq_some_iff.1 h2).1
    rw [R.Ls_len] at hj
    obtain ⟨v', l', h3, h4, h5⟩ := hR.vs_at hj
    rw [h1] at h3
    rw [h2] at h4
    injection h3 with h3
    injection h4 with h4
    subst h3 h4
    exact h5
  obtain ⟨y, hy⟩ : ∃ y, ansA ans = y := ⟨_, rfl⟩
  have HY := Lib.hid hy
  rw [hy] at HEND ⊢
  clear hR hN hA hd hy hna
  go_enter Try.func55, Try.ntmps55
  go_wp2_with fail
  refine (Calls.mono HI.out ?_)
  rintro e w1 ⟨lv, rfl, hlv, hf1⟩
  obtain ⟨lb, lo, lc, rfl, hlb0, hlb, hlc, _, _, _, hcl⟩ := hlv.form (by omega)
  have HLV := Lib.hid hlv
  have HF1 := Lib.hid hf1
  clear hlv hf1 hcl
  go_wp2_with fail
  go_loopw [4, 6] (fun v j wr => ∃ i : Nat, i ≤ N + 2 ∧ j = .int .i64 i ∧ v = .int .i64 ((trF y [] (R.Ls.take i)).1.length : Nat) ∧ Hid (VsIs wr b0 R.vs ((trF y [] (R.Ls.take i)).2 ++ R.Ls.drop i) ∧ Fr R.vb w1 wr)) (fun _ j _ => N + 2 - (intOf j).toNat)
  case atStart => exact ⟨0, by omega, rfl, rfl, fun j v c' h1 h2 => (HVS0.out j v c' h1 (by simpa [trF] using h2)).fr HF1.out (by simp), Fr.refl _ _⟩
  case round =>
    obtain ⟨i, hi, rfl, rfl, hx⟩ := hrel
    have HV := Lib.hid hx.1
    have HW := Lib.hid hx.2
    clear hx
    by_cases hlt : i < N + 2
    · obtain ⟨vi, li, hvi, hli, hvl⟩ := HR.out.vs_at (i := i) (by have := HN.out; omega)
      obtain ⟨pre, hpre⟩ : ∃ pre, (trF y [] (R.Ls.take i)).1 = pre := ⟨_, rfl⟩
      have HPRE := Lib.hid hpre
      have hti : (trF y [] (R.Ls.take i)).2.length = i := by rw [trF_len, List.length_take]; have := HLL.out; omega
      have hdi : R.Ls.drop i = li :: R.Ls.drop (i + 1) := by
        obtain ⟨q1, q2⟩ := List.getElem?_eq_some_iff.1 hli
        rw [List.drop_eq_getElem_cons q1, q2]
      have hsucc : trF y [] (R.Ls.take (i + 1)) = ((trL y pre li).1, (trF y [] (R.Ls.take i)).2 ++ [(trL y pre li).2]) := by
        rw [trF_succ y hli]
        unfold stepF
        rw [hpre]
      have HSUC := Lib.hid hsucc
      have hLi := HV.out i vi li hvi (by rw [List.getElem?_append_right (by omega), hti, hdi]; simp)
      have HVL := Lib.hid hLi
      have hvb : ∀ k, vi.ownBlock = some k → k ∈ R.vb := fun k hk => by
        unfold Dr.vb
        rw [List.mem_flatMap]
        exact ⟨vi, List.mem_of_getElem? hvi, by simp [hk]⟩
      have HVB := Lib.hid hvb
      have HNEXT : Hid (∀ Z, Fr vi.ownBlock.toList wr Z → Lst Z b0 3 1 vi li.length (iV (trL y pre li).2) → VsIs Z b0 R.vs ((trF y [] (R.Ls.take (i + 1))).2 ++ R.Ls.drop (i + 1))) := fun Z hf hL j v c' h1 h2 => by
        rw [HSUC.out] at h2
        by_cases e : j = i
        · subst e
          rw [hvi] at h1
          injection h1 with h1
          subst h1
          simp only [List.append_assoc] at h2
          rw [List.getElem?_append_right (by omega), hti, Nat.sub_self] at h2
          have h2 : (trL y pre li).2 = c' := by simpa using h2
          rw [← h2, trL_length]
          exact hL
        · have h3 : ((trF y [] (R.Ls.take i)).2 ++ R.Ls.drop i)[j]? = some c' := by
            rw [← h2, hdi]
            by_cases e2 : j < i
            · simp only [List.append_assoc]
              rw [List.getElem?_append_left (by omega), List.getElem?_append_left (by omega)]
            · simp only [List.append_assoc]
              rw [List.getElem?_append_right (by omega), List.getElem?_append_right (by omega), hti]
              obtain ⟨d, hd⟩ : ∃ d, j - i = d + 1 := ⟨j - i - 1, by omega⟩
              rw [hd]
              simp
          exact (HV.out j v c' h1 h3).fr hf (fun k hk hx => HR.out.vs_apart e h1 hvi k hk (by simpa using hx))
      obtain ⟨Ai, ci, rfl, hc1, hc2⟩ := hvl.look
      obtain ⟨n, hn⟩ : ∃ n, li.length = n := ⟨_, rfl⟩
      have HNL := Lib.hid hn
      rw [hn] at hvi HVL hc1 HVB HNEXT
      have hnn : n ≤ 9223372036854775807 := by unfold maxLen at hc2; omega
      obtain ⟨lb', lo', lc', hq', _, _, _, _, _, _, hcl⟩ := HLV.out.form (by omega)
      injection hq' with hq1 hq2 hq3
      injection hq1 with hq1
      injection hq1 with hq1 hq4
      subst hq1 hq4
      have HCL : Hid (∀ Z, Fr R.vb w1 Z → Z.cell? ⟨lb, lo + i, none⟩ = some (.slice Ai n ci)) := fun Z hf => by
        have h1 := hcl i _ hvi
        rw [World.cell?_of_block (hf.block lb hlb (fun hx => by have := (hvbF.out _ hx).2; omega))]
        exact h1
      have HLT : Hid ((R.Ls.take (i + 1)).flatten = (R.Ls.take i).flatten ++ li) := by
        obtain ⟨q1, q2⟩ := List.getElem?_eq_some_iff.1 hli
        show _ = _
        rw [List.take_succ_eq_append_getElem q1, q2, List.flatten_append]
        simp
      have k1 : (0 : Int) ≤ (i : Int) := by omega
      have k2 : (i : Int) < ((N + 2 : Nat) : Int) := by omega
      have k3 : (i : Int) < (N : Int) + 2 := by omega
      rw [hpre]
      clear hvi hli hvl hn hcl hq3 hpre hti hdi hsucc hLi hvb
      obtain ⟨wo, rfl⟩ : ∃ wo, wo = wr := ⟨_, rfl⟩
      go_wp2_with fail
      go_loopw [4, 7] (fun v j wr => ∃ x : Nat, x ≤ n ∧ j = .int .i64 x ∧ v = .int .i64 ((trL y pre (li.take x)).1.length : Nat) ∧ Hid (Lst wr b0 3 1 (.slice Ai n ci) n (iV ((trL y pre (li.take x)).2 ++ li.drop x)) ∧ Fr (Value.slice Ai n ci).ownBlock.toList wo wr)) (fun _ j _ => n - (intOf j).toNat)
      case atStart => exact ⟨0, by omega, rfl, by simp [trL], by simpa [trL] using HVL.out, Fr.refl _ _⟩
      case round =>
        obtain ⟨x, hxn, rfl, rfl, hx⟩ := hrel
        have HL2 := Lib.hid hx.out.1
        have HW2 := Lib.hid hx.out.2
        have HWT : Hid (Fr R.vb w1 wr) := HW.out.trans hx.out.2 (fun k hk => .inl (HVB.out k (by simpa using hk)))
        clear hx
        have cv := HCL.out _ HWT.out
        obtain ⟨s1, hs1⟩ : ∃ s1, (trL y pre (li.take x)).1 = s1 := ⟨_, rfl⟩
        by_cases hxl : x < n
        · obtain ⟨z, hz⟩ : ∃ z, li[x]? = some z := ⟨_, List.getElem?_eq_getElem (by have := HNL.out; omega)⟩
          obtain ⟨st1, st2, st3⟩ := lay_step (y := y) (pre := pre) hz
          rw [hs1] at st1 st2 ⊢
          obtain ⟨C, hC⟩ : ∃ C, (trL y pre (li.take x)).2 ++ li.drop x = C := ⟨_, rfl⟩
          rw [hC] at st1 st2 st3 HL2
          obtain ⟨ib, io, ic, hq, _, hib, _, _, _, hfz, hcl⟩ := HL2.out.form (by omega)
          injection hq with hq1 hq2 hq3
          subst hq1 hq3
          have cy := hcl x _ (iV_at st3)
          have hfx := hfz (io + x)
          have HTX : Hid ((R.Ls.take i).flatten ++ li.take (x + 1) = ((R.Ls.take i).flatten ++ li.take x) ++ [z]) := by
            obtain ⟨q1, q2⟩ := List.getElem?_eq_some_iff.1 hz
            show _ = _
            rw [List.take_succ_eq_append_getElem q1, q2, List.append_assoc]
          have hle : s1.length + 1 ≤ 5000000100000 := by
            have h0 : s1 = pos ((R.Ls.take i).flatten ++ li.take x) := by
              rw [← hs1, trL_pos, pos_append, ← HPRE.out, trF_pos]
            have h1 := pos_len ((R.Ls.take i).flatten ++ li.take x)
            have h2 : ((R.Ls.take i).flatten ++ li.take (x + 1)).length ≤ R.Ls.flatten.length := by
              have h3 : (R.Ls.take i).flatten ++ li.take (x + 1) = ((R.Ls.take (i + 1)).flatten).take ((R.Ls.take i).flatten.length + (x + 1)) := by
                rw [HLT.out, List.take_append, List.take_of_length_le (Nat.le_add_right _ _), Nat.add_sub_cancel_left]
              have h4 : R.Ls.flatten = (R.Ls.take (i + 1)).flatten ++ (R.Ls.drop (i + 1)).flatten := by rw [← List.flatten_append, List.take_append_drop]
              rw [h3, h4, List.length_take, List.length_append]
              omega
            have h5 := HSM.out
            rw [HTX.out, List.length_append, List.length_cons, List.length_nil] at h2
            rw [h0]
            omega
          have k4 : (0 : Int) ≤ (x : Int) := by omega
          have k5 : (x : Int) < (n : Int) := by omega
          have k6 : decide ((x : Int) < (n : Int)) = true := decide_eq_true k5
          by_cases h0 : 0 < z
          · have k7 : decide (z ≤ 0) = false := decide_eq_false (by omega)
            obtain ⟨e1, e2⟩ := st1 h0
            have HE1 := Lib.hid e1
            have HPUT : Hid (∀ v : Int, y s1 z = v → Lst (wr.setCell ⟨ib, io + x, none⟩ (.int .i64 v)) b0 3 1 (.slice (some ⟨ib, io, none⟩) n ci) n (iV ((trL y pre (li.take (x + 1))).2 ++ li.drop (x + 1))) ∧ Fr (Value.slice (some ⟨ib, io, none⟩) n ci).ownBlock.toList wo (wr.setCell ⟨ib, io + x, none⟩ (.int .i64 v))) := fun v hv => by
              refine ⟨?_, HW2.out.setCell (by simp [Value.ownBlock]) _⟩
              rw [e2, hv]
              have := HL2.out.put (j := x) (.int .i64 v)
              unfold iV at this ⊢
              rw [List.map_set]
              exact this
            obtain ⟨p, hp⟩ : ∃ p, s1.length = p := ⟨_, rfl⟩
            have HP := Lib.hid hp
            rw [hp] at hle ⊢
            have hn2 : (trL y pre (li.take (x + 1))).1.length = p + 1 := by rw [e1, List.length_append, hp]; rfl
            have HN2 := Lib.hid hn2
            by_cases hans : p < na
            · obtain ⟨u, hu⟩ : ∃ u, ans[p]? = some u := ⟨_, List.getElem?_eq_getElem (by have := HNA.out; omega)⟩
              have hto := HTO.out wr ((HF1.out.mono (by simp)).trans HWT.out (fun k hk => .inl hk))
              obtain ⟨tb, tof, hA1, htb, htc⟩ := hto.2 (by have := (List.getElem?_eq_some_iff.1 hu).1; omega)
              have ct := htc p u hu
              obtain ⟨v, hv⟩ : ∃ v, max u 0 = v := ⟨_, rfl⟩
              have HAU : Hid (∀ Z : World, Calls Try.prog 59 #[.int .i64 u] Z fun e w' => e = .returned (.int .i64 v) ∧ Z = w') := fun Z => by have := HA.out u Z; rw [hv] at this; exact this
              have hyv : y s1 z = v := by
                rw [← HY.out]
                unfold ansA
                rw [List.getD_eq_getElem?_getD, hp, hu]
                exact hv
              have HX := Lib.hid (HPUT.out v hyv)
              have m1 : (0 : Int) ≤ (p : Int) := by omega
              have m2 : (p : Int) < (na : Int) := by omega
              have m3 : decide ((p : Int) < (na : Int)) = true := decide_eq_true m2
              subst hA1
              clear hz st1 st2 st3 hC hcl hfz hq2 hs1 e1 e2 hp hn2 hu hto htc hv hyv
              go_wp2_with fail
              refine (Calls.mono (HAU.out _) ?_)
              rintro e w' ⟨rfl, rfl⟩
              go_wp2_with fail
              go_roundw
              case rel => exact ⟨x + 1, by omega, by go_num, by rw [HN2.out]; go_num, HX.out⟩
              case measure => simp [intOf]; omega
            · have hyv : y s1 z = 0 := by
                rw [← HY.out]
                unfold ansA
                rw [List.getD_eq_getElem?_getD, List.getElem?_eq_none (by have := HNA.out; omega)]
                rfl
              have HX := Lib.hid (HPUT.out 0 hyv)
              have m3 : decide ((p : Int) < (na : Int)) = false := decide_eq_false (by omega)
              clear hz st1 st2 st3 hC hcl hfz hq2 hs1 e1 e2 hp hn2 hyv
              go_wp2_with fail
              go_roundw
              case rel => exact ⟨x + 1, by omega, by go_num, by rw [HN2.out]; go_num, HX.out⟩
              case measure => simp [intOf]; omega
          · have k7 : decide (z ≤ 0) = true := decide_eq_true (by omega)
            obtain ⟨e1, e2⟩ := st2 h0
            have HE1 := Lib.hid e1
            have HX : Hid (Lst wr b0 3 1 (.slice (some ⟨ib, io, none⟩) n ci) n (iV ((trL y pre (li.take (x + 1))).2 ++ li.drop (x + 1))) ∧ Fr (Value.slice (some ⟨ib, io, none⟩) n ci).ownBlock.toList wo wr) := by
              refine ⟨?_, HW2.out⟩
              rw [e2]
              exact HL2.out
            clear hz st1 st2 st3 hC hcl hfz hq2 hs1 e1 e2
            go_wp2_with fail
            go_roundw
            case rel => exact ⟨x + 1, by omega, by go_num, by rw [HE1.out], HX.out⟩
            case measure => simp [intOf]; omega
        · obtain rfl : n = x := by omega
          have HX : Hid (VsIs wr b0 R.vs ((trF y [] (R.Ls.take (i + 1))).2 ++ R.Ls.drop (i + 1)) ∧ Fr R.vb w1 wr) := by
            refine ⟨HNEXT.out wr HW2.out ?_, HWT.out⟩
            have h1 := HL2.out
            rw [List.take_of_length_le (l := li) (by have := HNL.out; omega), List.drop_eq_nil_of_le (by have := HNL.out; omega), List.append_nil] at h1
            exact h1
          have HPN : Hid ((trF y [] (R.Ls.take (i + 1))).1.length = s1.length) := by
            show _ = _
            rw [HSUC.out, ← hs1, List.take_of_length_le (l := li) (by have := HNL.out; omega)]
          have k6 : decide ((n : Int) < (n : Int)) = false := decide_eq_false (by omega)
          rw [hs1]
          clear hs1
          go_wp2_with fail
          go_roundw
          case rel => exact ⟨i + 1, by omega, by go_num, by rw [HPN.out], HX.out⟩
          case measure => simp [intOf]; omega
    · obtain rfl : i = N + 2 := by omega
      have HX : Hid (DO b0 g (updA y R.abs).2 (R.foot g) (.tuple #[]) w (.returned (.tuple #[])) wr) := by
        have h1 := HV.out
        rw [List.take_of_length_le (l := R.Ls) (by have := HLL.out; omega), List.drop_eq_nil_of_le (by have := HLL.out; omega), List.append_nil] at h1
        exact HEND.out wr ((HF1.out.mono (by simp)).trans HW.out (fun k hk => .inl hk)) h1
      have k6 : decide (((N + 2 : Nat) : Int) < ((N + 2 : Nat) : Int)) = false := decide_eq_false (by omega)
      have k7 : decide ((N : Int) + 2 < (N : Int) + 2) = false := decide_eq_false (by omega)
      go_wp2_with fail
      go_returns
      exact HX.out
end Go.Proofs.Ytdjemkgnhohcdaa
