/-
  Roots in general: the queue.
-/
import Derived.Test.YtdcppdgnekhcgaaGreatDoorRtS4
import Derived.Test.YtdcppdgnekhcgaaGreatDoorLstBig
import Derived.Lib.LazyBuf
namespace Go.Proofs.YtdcppdgnekhcgaaGreatDoor
open Go.RowKit
set_option maxRecDepth 100000
set_option linter.unusedVariables false

def enqA (a : RA) (x : Int) : RA := { a with q := a.q ++ [max x 0] }
def deqA (a : RA) : RA × Int × Bool := match a.q with
  | [] => (a, 0, false)
  | x :: q => ({ a with q := q }, x, true)

theorem lst_news {w : World} {b0 : Nat} {e : TypeId} {ad : Addr} {n cp : Nat} {xs : List Value} (h : Lst w b0 e 1 (.slice (some ad) n cp) n xs) : ∀ j u, xs[j]? = some u → w.cell? (ad.add j) = some u := by
  intro j u hu
  have hn : 0 < n := by
    have := h.1
    have := (List.getElem?_eq_some_iff.1 hu).1
    omega
  obtain ⟨g, off, cap, hv, _, _, _, _, _, _, hc⟩ := h.form hn
  injection hv with hv1 _ _
  injection hv1 with hv1
  subst hv1
  have e : (⟨g, off, none⟩ : Addr).add j = ⟨g, off + j, none⟩ := by unfold Addr.add; split <;> simp_all
  rw [e]
  exact hc j u hu

set_option maxHeartbeats 800000 in
theorem clone_lst {b0 : Nat} {ad : Addr} {n cp : Nat} {l : List Int} (w : World) (h : Lst w b0 3 1 (.slice (some ad) n cp) n (iV l)) (hl : n ≤ 19800000000000) :
    Calls Tryz.prog 55 #[.slice (some ad) n cp] w (NewL l w) := by
  have hq := fun W : World => Lib.run_eql_slice_nil (P := Tryz.prog) W 29 3 (some ad) n cp 0 0 Tryz.underlying29
  obtain ⟨i2, hi2, hz2, hs2, hb2⟩ := info_parts int_info
  have HN := Lib.hid (lst_news (h.alloc (.cells #[] 3)))
  have HLN : Hid (l.length = n) := by have := h.1; rw [iV_length, Nat.mul_one] at this; exact this
  have HO : Hid (Lst (w.alloc (.cells #[] 3)) w.heap.size 3 1 (.slice (some ⟨w.heap.size, 0, none⟩) 0 0) 0 []) :=
    ⟨rfl, .inr ⟨w.heap.size, 0, 0, #[], rfl, Nat.le_refl _, Bk.new _ _ _, Nat.le_refl _, by unfold maxLen; omega, by simp, by simp⟩⟩
  clear h
  go_enter Tryz.func55, Tryz.ntmps55
  go_wp2_with (at_builtin; refine wpList_append_lst2 _ rfl (.tmp 5) (.tmp 6) _ rfl w.heap.size 3 i2 _ 1 8 Tryz.underlying29 hi2 hz2 hs2 hb2 rfl _ 0 [] rfl HO.out ad n cp (iV l) rfl (by rw [iV_length, HLN.out]; omega) HN.out ?c2 ?c3 ?c4 ?c5 ?c6)
  case c2 => intro u hu; obtain ⟨x, _, rfl⟩ := List.mem_map.1 hu; rfl
  case c3 => unfold maxLen; omega
  case c4 => intro old h1 h2; exact next_any h1 (by omega)
  case c5 => first | omega | (simp; done) | (simp; omega)
  case c6 =>
    intro v' w' hown hgrow hat
    have HO2 : Hid (Lst w' w.heap.size 3 1 v' n (iV l)) := by
      show Lst w' w.heap.size 3 1 v' n (iV l)
      simpa using hown
    have HF : Hid (Fr [] w w') := ((Fr.refl [] w).alloc _).grown hgrow (fun k hk => .inr (by have : w.heap.size = k := (by simpa [Value.ownBlock] using hk); omega))
    clear hown hgrow hat
    go_wp2_with fail
    go_ret
    exact ⟨v', rfl, by rw [HLN.out]; exact HO2.out, HF.out⟩

theorem queue_any {b0 : Nat} {w : World} {g : Nat} {a : RA} {F : List Nat} (h : RS b0 w g a F) (hl : a.q.length ≤ 19800000000000) :
    Calls Tryz.prog 14 #[.pointer (some ⟨g, 0, none⟩)] w (NewL a.q w) := by
  obtain ⟨R, hR, rfl, rfl⟩ := h
  have c3 : w.cell? ⟨g, 3, none⟩ = some R.vq := hR.B.cell 3
  have hQ := hR.Q
  have HC : Hid (Calls Tryz.prog 55 #[R.vq] w (NewL R.q w)) := by
    obtain ⟨A, cp, hv, h1, h2⟩ := hQ.look
    rw [hv] at hQ ⊢
    cases A with
    | none =>
      rcases hQ.2 with ⟨e, h0⟩ | ⟨g', off, cap, cur, e, _⟩
      · rw [e]
        have hq : R.q = [] := List.eq_nil_of_length_eq_zero (by simpa using h0)
        rw [hq]
        exact (clone_nil w).mono fun e w' ⟨h1, h2⟩ => by subst h2; exact ⟨_, h1, Lst.nil _ _ _ _, Fr.refl _ _⟩
      · cases e
    | some ad => exact clone_lst w hQ hl
  show Calls Tryz.prog 14 #[.pointer (some ⟨g, 0, none⟩)] w (NewL R.q w)
  clear hR hQ hl
  go_enter Tryz.func14, Tryz.ntmps14
  go_wp2_with fail
  refine (Calls.mono HC.out ?_)
  rintro e w' ⟨v, rfl, h1, h2⟩
  have H1 := Lib.hid h1
  have H2 := Lib.hid h2
  clear h1 h2
  go_wp2_with fail
  go_ret
  exact ⟨v, rfl, H1.out, H2.out⟩

set_option maxHeartbeats 1600000 in
theorem deq_any {b0 : Nat} {w : World} {g : Nat} {a : RA} {F : List Nat} (h : RS b0 w g a F) (hb0 : b0 ≤ w.heap.size) :
    Calls Tryz.prog 50 #[.pointer (some ⟨g, 0, none⟩)] w (RO b0 g (deqA a).1 F (.tuple #[.int .i64 (deqA a).2.1, .bool (deqA a).2.2]) w) := by
  have HRS := Lib.hid h
  obtain ⟨R, hR, rfl, rfl⟩ := h
  have c3 : w.cell? ⟨g, 3, none⟩ = some R.vq := hR.B.cell 3
  have hQ := hR.Q
  cases hq : R.q with
  | nil =>
    have e : deqA R.abs = (R.abs, 0, false) := by unfold deqA Rts.abs; simp only [hq]
    rw [e]
    rw [hq] at hQ
    obtain ⟨A, cp, hv, h1, h2⟩ := hQ.look
    rw [hv] at c3
    simp only [List.length_nil] at c3
    clear hR hQ hq hv e
    go_enter Tryz.func50, Tryz.ntmps50
    go_wp2_with fail
    go_ret2
    exact RO.same HRS.out (Fr.refl _ _)
  | cons x q =>
    have e : deqA R.abs = ({ R.abs with q := q }, x, true) := by unfold deqA Rts.abs; simp only [hq]
    rw [e]
    rw [hq] at hQ
    obtain ⟨qb, off, cap, hv, hqb, hql, hnc, hcm, _, hfz, hcell⟩ := hQ.form (by simp)
    have cx := hcell 0 _ rfl
    rw [Nat.add_zero] at cx
    rw [hv] at hQ
    obtain ⟨n, hn⟩ : ∃ n, q.length = n := ⟨_, rfl⟩
    have hlen : (x :: q).length = n + 1 := by simp [hn]
    rw [hlen] at hv hnc hQ
    have c3' := c3
    rw [hv] at c3
    have f3 := hR.B.free 3
    have hz1 : (((n + 1 : Nat) : Int) == 0) = false := by simpa using (show ¬ ((n + 1 : Nat) : Int) = 0 by omega)
    have hz2 : ((n : Int) + 1 == 0) = false := by simpa using (show ¬ (n : Int) + 1 = 0 by omega)
    have hnl : n + 1 ≤ 9223372036854775807 := by unfold maxLen at hcm; omega
    have hcl : cap ≤ 9223372036854775807 := by unfold maxLen at hcm; omega
    have hL1 := hQ.cut (k := 1) (by omega)
    simp only [Nat.add_sub_cancel, Nat.one_mul] at hL1
    have hd : (iV (x :: q)).drop 1 = iV q := rfl
    rw [hd] at hL1
    have K : Hid (∀ v', v'.ownBlock = some qb → Lst w b0 3 1 v' n (iV q) → RO b0 g { R.abs with q := q } (R.foot g) (.tuple #[.int .i64 x, .bool true]) w (.returned (.tuple #[.int .i64 x, .bool true])) (w.setCell ⟨g, 3, none⟩ v')) := fun v' hv' hl' => by
      have s1 : Fr [g] w (w.setCell ⟨g, 3, none⟩ v') := (Fr.refl _ _).setCell (by simp) _
      have hbb := hR.B.put 3 v'
      have := hR.qchange (vq' := v') (q' := q) s1 hb0 (fun z hz => .inl (by simpa using hz)) hbb (by rw [hn]; exact hl'.far (p := ⟨g, 3, none⟩) (hl'.ne_bk hR.B (by decide)) v') (fun z hz => .inl (by
        rw [hv'] at hz
        rw [hv]
        exact hz))
      exact RO.of (r := .tuple #[.int .i64 x, .bool true]) this
    have i0 : (0 : Int) < (n : Int) + 1 := by omega
    by_cases hc1 : cap = 1
    · subst hc1
      obtain rfl : n = 0 := by omega
      simp only [if_true, Nat.sub_self] at hL1
      have HK := Lib.hid (K.out (.slice (some ⟨qb, off, none⟩) 0 0) rfl hL1)
      clear hR hQ hq hv e hL1 K hcell hfz c3' hlen hd hn
      go_enter Tryz.func50, Tryz.ntmps50
      go_wp2_with fail
      go_ret2
      exact HK.out
    · rw [if_neg hc1] at hL1
      have HK := Lib.hid (K.out (.slice (some ⟨qb, off + 1, none⟩) n (cap - 1)) rfl hL1)
      clear hR hQ hq hv e hL1 K hcell hfz c3' hlen hd hn
      go_enter Tryz.func50, Tryz.ntmps50
      go_wp2_with fail
      go_ret2
      exact HK.out

set_option maxHeartbeats 1600000 in
theorem enq_any {b0 : Nat} {w : World} {g : Nat} {a : RA} {F : List Nat} (h : RS b0 w g a F) (hb0 : b0 ≤ w.heap.size) (hl : a.q.length ≤ 19800000000000) (x : Int) :
    Calls Tryz.prog 10 #[.pointer (some ⟨g, 0, none⟩), .int .i64 x] w (RO b0 g (enqA a x) F (.tuple #[]) w) := by
  have HRS := Lib.hid h
  obtain ⟨R, hR, rfl, rfl⟩ := h
  have hl : R.q.length ≤ 19800000000000 := hl
  have c3 : w.cell? ⟨g, 3, none⟩ = some R.vq := hR.B.cell 3
  have hQ := hR.Q
  obtain ⟨A, cp, hv, _, _⟩ := hQ.look
  obtain ⟨n, hn⟩ : ∃ n, R.q.length = n := ⟨_, rfl⟩
  rw [hv, hn] at hQ
  rw [hv, hn] at c3
  rw [hn] at hl
  obtain ⟨i2, hi2, hz2, hs2, hb2⟩ := info_parts int_info
  have K : Hid (∀ (y : Int) v' w1, y = max x 0 → Lst w1 b0 3 1 v' (n + 1) (iV R.q ++ [.int .i64 y]) → Fr ((Value.slice A n cp).ownBlock.toList) w w1 → (v'.ownBlock = (Value.slice A n cp).ownBlock ∨ ∃ z, v'.ownBlock = some z ∧ w.heap.size ≤ z) →
      w1.cell? ⟨g, 3, none⟩ = some (.slice A n cp) ∧ w1.frozen? ⟨g, 3, none⟩ = false ∧ RO b0 g (enqA R.abs x) (R.foot g) (.tuple #[]) w (.returned (.tuple #[])) (w1.setCell ⟨g, 3, none⟩ v')) := fun y v' w1 hy hl' hf hat => by
    subst hy
    have hgo : g ∉ (Value.slice A n cp).ownBlock.toList := fun hx => hR.Q.ne_bk hR.B (by decide) g (by rw [hv, hn]; simpa using hx) rfl
    have hB1 := hR.B.fr hf hgo
    have s1 : Fr [g] w1 (w1.setCell ⟨g, 3, none⟩ v') := (Fr.refl _ _).setCell (by simp) _
    have := hR.qchange (w' := w1.setCell ⟨g, 3, none⟩ v') (vq' := v') (q' := R.q ++ [max x 0]) (S := g :: (Value.slice A n cp).ownBlock.toList) ((hf.mono (by intro z hz; exact .inl (List.mem_cons_of_mem _ hz))).trans s1 (by simp)) hb0 (fun z hz => by
        rcases List.mem_cons.1 hz with e | e
        · exact .inl e
        · exact .inr (by rw [hv, hn]; simpa using e)) (hB1.put 3 v') (by
        have := hl'.far (p := ⟨g, 3, none⟩) (hl'.ne_bk hB1 (by decide)) v'
        unfold iV at this ⊢
        rw [List.length_append, List.map_append, hn]
        exact this) (fun z hz => by
        rcases hat with e | ⟨z', e, hz'⟩
        · exact .inl (by rw [hv, hn, ← e]; exact hz)
        · rw [e] at hz
          injection hz with hz
          subst hz
          exact .inr hz')
    refine ⟨?_, hB1.free 3, RO.of (r := .tuple #[]) this⟩
    have c := hB1.cell 3
    rw [hv, hn] at c
    exact c
  have HL := Lib.hid hQ
  have HB0 := Lib.hid hb0
  clear hR hQ hv hn
  rcases (show 0 ≤ x ∨ x < 0 by omega) with hx | hx
  · have hm : Hid (x = max x 0) := by show x = max x 0; omega
    go_enter Tryz.func10, Tryz.ntmps10
    go_wp2_with (at_builtin; refine wpList_append_lst2 _ rfl (.tmp 8) (.tmp 11) _ rfl b0 3 i2 _ 1 8 Tryz.underlying29 hi2 hz2 hs2 hb2 rfl _ n (iV _) rfl (HL.out.alloc _) ⟨w.heap.size, 0, none⟩ 1 1 [.int .i64 x] rfl rfl (World.news_of_block (heap_alloc_new _ _)) ?c2 ?c3 ?c4 ?c5 ?c6)
    case c2 => simp [Value.oneCell']
    case c3 => unfold maxLen; omega
    case c4 => intro old h1 h2; exact next_any h1 (by omega)
    case c5 => have := HB0.out; first | omega | (simp; omega)
    case c6 =>
      intro v2 w1 hown hgrow hat
      have hf : Fr ((Value.slice A n cp).ownBlock.toList) w w1 := ((Fr.refl _ _).alloc _).grown hgrow (fun j hj => .inl (by simp [hj]))
      obtain ⟨k1, k2, k3⟩ := K.out x v2 w1 hm.out hown hf (by
        rcases hat with e | e
        · exact .inl e
        · exact .inr ⟨_, e, by simp⟩)
      have HK := Lib.hid k3
      obtain ⟨A2, cap2, rfl, _, _⟩ := hown.look
      clear hown hgrow hat hf k3
      go_wp2_with fail
      go_returns
      exact HK.out
  · have hm : Hid (0 = max x 0) := by show 0 = max x 0; omega
    go_enter Tryz.func10, Tryz.ntmps10
    go_wp2_with (at_builtin; refine wpList_append_lst2 _ rfl (.tmp 8) (.tmp 11) _ rfl b0 3 i2 _ 1 8 Tryz.underlying29 hi2 hz2 hs2 hb2 rfl _ n (iV _) rfl (HL.out.alloc _) ⟨w.heap.size, 0, none⟩ 1 1 [.int .i64 0] rfl rfl (World.news_of_block (heap_alloc_new _ _)) ?c2 ?c3 ?c4 ?c5 ?c6)
    case c2 => simp [Value.oneCell']
    case c3 => unfold maxLen; omega
    case c4 => intro old h1 h2; exact next_any h1 (by omega)
    case c5 => have := HB0.out; first | omega | (simp; omega)
    case c6 =>
      intro v2 w1 hown hgrow hat
      have hf : Fr ((Value.slice A n cp).ownBlock.toList) w w1 := ((Fr.refl _ _).alloc _).grown hgrow (fun j hj => .inl (by simp [hj]))
      obtain ⟨k1, k2, k3⟩ := K.out 0 v2 w1 hm.out hown hf (by
        rcases hat with e | e
        · exact .inl e
        · exact .inr ⟨_, e, by simp⟩)
      have HK := Lib.hid k3
      obtain ⟨A2, cap2, rfl, _, _⟩ := hown.look
      clear hown hgrow hat hf k3
      go_wp2_with fail
      go_returns
      exact HK.out
end Go.Proofs.YtdcppdgnekhcgaaGreatDoor
