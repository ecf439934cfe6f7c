/-
  Roots in general: Pop, Frames, a slot of the top frame: Get and Set.
-/
import Derived.Test.YtdcppdgnekhcgaaGreatDoorRtS2
import Derived.BigRegion
import Derived.StillTailTactics
namespace Go.Proofs.YtdcppdgnekhcgaaGreatDoor
open Go.RowKit
set_option maxRecDepth 100000
set_option linter.unusedVariables false

def popA (a : RA) (t : Int) : RA × Int :=
  if inT a t = false then (a, 51) else if thA a t = [] then (a, 54) else ({ a with ths := a.ths.set t.toNat (thA a t).dropLast }, 0)
def framesA (a : RA) (t : Int) : List Int := if inT a t = false then [] else (thA a t).map (fun l => (l.length : Int))
def topE (a : RA) (t s : Int) : Int :=
  if inT a t = false then 51 else if thA a t = [] then 54 else if s < 0 ∨ (((thA a t).getLastD []).length : Int) ≤ s then 52 else 0
def getA (a : RA) (t s : Int) : Int × Int := if topE a t s = 0 then (((thA a t).getLastD []).getD s.toNat 0, 0) else (0, topE a t s)
def setA (a : RA) (t s x : Int) : RA × Int :=
  if topE a t s = 0 then ({ a with ths := a.ths.set t.toNat ((thA a t).dropLast ++ [((thA a t).getLastD []).set s.toNat (max x 0)]) }, 0) else (a, topE a t s)

section
variable {b0 : Nat} {w w' : World} {g : Nat} {R : Rts}
theorem RT.ndt (h : RT b0 w g R) {A B : List Thr} {t : Thr} (hR : R.ths = A ++ t :: B) : t.ib.Nodup := by
  have := h.ndI
  unfold Rts.ib at this
  rw [hR, List.flatMap_append, List.flatMap_cons] at this
  exact (List.nodup_append.1 (List.nodup_append.1 (List.nodup_append.1 this).2.1).2.1).1
/-- A frame popped, in memory. -/
theorem RT.popped {A B : List Thr} {t : Thr} {C : List Frm} {f : Frm} {gb off cap : Nat} (h : RT b0 w g R) (hb0 : b0 ≤ w.heap.size) (hR : R.ths = A ++ t :: B) (hC : t.fs = C ++ [f]) (hv : t.v = .slice (some ⟨gb, off, none⟩) (C.length + 1) cap) :
    RO b0 g { R.abs with ths := R.abs.ths.set A.length (C.map Frm.l) } (R.foot g) (.int .i64 0) w (.returned (.int .i64 0)) (w.setCell ⟨R.gT, A.length, none⟩ (.slice (some ⟨gb, off, none⟩) C.length cap)) := by
  have ht : t ∈ R.ths := by rw [hR]; simp
  obtain ⟨k1, k2, k3, k4, k5, k6⟩ := h.kinds
  have hL := h.Fs t ht
  rw [hv, hC] at hL
  have hlen : (C ++ [f]).length = C.length + 1 := by simp
  rw [hlen] at hL
  have hL2 := hL.shut (k := C.length) (by omega)
  have e1 : (⟨.slice (some ⟨gb, off, none⟩) C.length cap, C⟩ : Thr).ls = C.map Frm.l := rfl
  have s2 : Go.Proofs.YtdcppdgnekhcgaaGreatDoor.Fr [R.gT] w (w.setCell ⟨R.gT, A.length, none⟩ (.slice (some ⟨gb, off, none⟩) C.length cap)) := (Fr.refl _ _).setCell (by simp) _
  have hmem : ∀ f' ∈ C, f' ∈ t.fs := fun f' hf' => by rw [hC]; simp [hf']
  have key := h.change (t' := ⟨.slice (some ⟨gb, off, none⟩) C.length cap, C⟩) hR s2 hb0 (fun x hx => .inl (by simpa using hx)) ?_ ?_ ?_ ?_ ?_ ?_ ?_ ?_
  · have := RO.of (r := .int .i64 0) key
    rw [abs_set hR rfl, e1, Int.toNat_natCast] at this
    exact this
  · have := h.Th.put A.length (.slice (some ⟨gb, off, none⟩) C.length cap)
    rw [hR] at this
    have e : ((List.map Thr.v (A ++ t :: B)).toArray).setIfInBounds A.length (.slice (some ⟨gb, off, none⟩) C.length cap) = (List.map Thr.v (A ++ (⟨.slice (some ⟨gb, off, none⟩) C.length cap, C⟩ : Thr) :: B)).toArray := by
      have := set_mid (A.map Thr.v) t.v (.slice (some ⟨gb, off, none⟩) C.length cap) (B.map Thr.v)
      rw [List.length_map] at this
      simp [List.map_append, this]
    rw [e] at this
    exact this
  · have hne : gb ≠ R.gT := (k6 t ht gb (by rw [hv]; rfl)).2.1
    have := hL2.far (p := ⟨R.gT, A.length, none⟩) (fun j hj => by have : gb = j := (by simpa [Value.ownBlock] using hj); show j ≠ R.gT; omega) (.slice (some ⟨gb, off, none⟩) C.length cap)
    rw [Nat.mul_one, List.map_append, List.take_left' (by simp)] at this
    exact this
  · intro f' hf'
    exact (h.Fr t ht f' (hmem f' hf')).fr s2 (by simpa using (k5 t ht f' (hmem f' hf')).2.1)
  · intro x hx
    obtain ⟨f', hf', e⟩ := List.mem_map.1 hx
    exact .inl (List.mem_map.2 ⟨f', hmem f' hf', e⟩)
  · intro x hx
    refine .inl ?_
    simp only [Thr.fb, Value.ownBlock, Option.mem_toList] at hx ⊢
    rw [hv]
    exact hx
  · have := h.ndt hR
    unfold Thr.ib at this ⊢
    rw [hC, List.map_append] at this
    exact (List.nodup_append.1 this).1
  · have := h.room t ht
    rw [e1]
    unfold Thr.ls at this
    rw [hC, List.map_append] at this
    unfold sumL at this ⊢
    rw [List.map_append, List.sum_append] at this
    omega
  · intro f' hf'
    exact h.one t ht f' (hmem f' hf')
/-- A frame's numbers become others. -/
theorem RT.slot {A B : List Thr} {t : Thr} {C D : List Frm} {f : Frm} {l' : List Int} {S : List Nat} (h : RT b0 w g R) (hf : Go.Proofs.YtdcppdgnekhcgaaGreatDoor.Fr S w w') (hS : ∀ x ∈ S, x ∈ R.foot g → x = f.b) (hb0 : b0 ≤ w.heap.size)
    (hR : R.ths = A ++ t :: B) (hC : t.fs = C ++ f :: D) (hl : l'.length = f.l.length) (hB : Bk w' f.b 3 (iV l').toArray) : RT b0 w' g { R with ths := A ++ ⟨t.v, C ++ ⟨f.b, l'⟩ :: D⟩ :: B } ∧ ({ R with ths := A ++ ⟨t.v, C ++ ⟨f.b, l'⟩ :: D⟩ :: B } : Rts).foot g = R.foot g := by
  have ht : t ∈ R.ths := by rw [hR]; simp
  obtain ⟨k1, k2, k3, k4, k5, k6⟩ := h.kinds
  have hff : f ∈ t.fs := by rw [hC]; simp
  have hib : (⟨t.v, C ++ ⟨f.b, l'⟩ :: D⟩ : Thr).ib = t.ib := by simp [Thr.ib, hC]
  have hnd := h.ndt hR
  have hfr : (C ++ (⟨f.b, l'⟩ : Frm) :: D).map frV = t.fs.map frV := by simp [hC, frV, hl]
  have mT : R.gT ∈ R.foot g := foot_mem.2 (.inr (.inl rfl))
  have key := h.turn (t' := ⟨t.v, C ++ ⟨f.b, l'⟩ :: D⟩) hR hf hb0 (fun x hx hm => .inr (.inr (by rw [hS x hx hm]; exact List.mem_map.2 ⟨f, hff, rfl⟩))) ?_ ?_ ?_ ?_ ?_ ?_ ?_ ?_
  · refine ⟨key.1, ?_⟩
    unfold Rts.foot Rts.ib Rts.fb
    rw [hR]
    simp only [List.flatMap_append, List.flatMap_cons, hib]
    rfl
  · have := h.Th.fr hf (fun hx => (k5 t ht f hff).2.1 (hS _ hx mT).symm)
    rw [hR] at this
    simpa using this
  · show Lst w' b0 29 1 t.v (C ++ (⟨f.b, l'⟩ : Frm) :: D).length ((C ++ (⟨f.b, l'⟩ : Frm) :: D).map frV)
    rw [hfr]
    have e : (C ++ (⟨f.b, l'⟩ : Frm) :: D).length = t.fs.length := by rw [hC]; simp
    rw [e]
    exact (h.Fs t ht).fr hf (fun x hx hxS => (k6 t ht x hx).2.2.2.2 t ht f hff (hS x hxS (foot_mem.2 (.inr (.inr (.inr (.inr (.inr ⟨t, ht, hx⟩))))))).symm)
  · intro f' hf'
    simp only [List.mem_append, List.mem_cons] at hf'
    have other : ∀ f', f' ∈ C ∨ f' ∈ D → Bk w' f'.b 3 (iV f'.l).toArray := fun f' hf' => by
      have hm : f' ∈ t.fs := by rw [hC]; rcases hf' with h | h <;> simp [h]
      refine (h.Fr t ht f' hm).fr hf (fun hx => ?_)
      have e := hS _ hx (foot_mem.2 (.inr (.inr (.inr (.inr (.inl ⟨t, ht, f', hm, rfl⟩))))))
      unfold Thr.ib at hnd
      rw [hC, List.map_append, List.map_cons] at hnd
      have p := List.nodup_append.1 hnd
      rcases hf' with h' | h'
      · exact p.2.2 f'.b (List.mem_map.2 ⟨f', h', rfl⟩) f.b (by simp) e
      · exact (List.nodup_cons.1 p.2.1).1 (by rw [← e]; exact List.mem_map.2 ⟨f', h', rfl⟩)
    rcases hf' with h' | rfl | h'
    · exact other f' (.inl h')
    · exact hB
    · exact other f' (.inr h')
  · intro x hx
    rw [hib] at hx
    exact .inl hx
  · intro x hx
    exact .inl hx
  · rw [hib]
    exact hnd
  · have := h.room t ht
    unfold Thr.ls at this ⊢
    rw [hC] at this
    simp only [sumL, List.map_append, List.map_cons, List.sum_append, List.sum_cons, hl] at this ⊢
    exact this
  · intro f' hf'
    simp only [List.mem_append, List.mem_cons] at hf'
    rcases hf' with h' | rfl | h'
    · exact h.one t ht f' (by rw [hC]; simp [h'])
    · rw [hl]; exact h.one t ht f hff
    · exact h.one t ht f' (by rw [hC]; simp [h'])
end

theorem last_split {α : Type} {l : List α} (h : l ≠ []) : ∃ C x, l = C ++ [x] := by
  rcases List.eq_nil_or_concat l with rfl | ⟨C, x, e⟩
  · exact absurd rfl h
  · exact ⟨C, x, by rw [e, List.concat_eq_append]⟩

set_option maxRecDepth 100000 in
set_option maxHeartbeats 1600000 in
theorem pop_any {b0 : Nat} {w : World} {g : Nat} {a : RA} {F : List Nat} (h : RS b0 w g a F) (hb0 : b0 ≤ w.heap.size) (i : Int) :
    Calls Tryz.prog 48 #[.pointer (some ⟨g, 0, none⟩), .int .i64 i] w (RO b0 g (popA a i).1 F (.int .i64 (popA a i).2) w) := by
  have HRS := Lib.hid h
  obtain ⟨R, hR, rfl, rfl⟩ := h
  have HH := Lib.hid (hR.hasC i w rfl)
  have c1 : w.cell? ⟨g, 1, none⟩ = some (.slice (some ⟨R.gT, 0, none⟩) R.ths.length R.ths.length) := hR.B.cell 1
  have HR := Lib.hid hR
  have HB0 := Lib.hid hb0
  obtain ⟨o1, o2, o3, o4, o5⟩ := hR.ok
  clear hR hb0
  cases hi : inT R.abs i with
  | false =>
    have e : popA R.abs i = (R.abs, 51) := by unfold popA; rw [if_pos hi]
    rw [hi] at HH
    rw [e]
    clear hi e
    go_enter Tryz.func48, Tryz.ntmps48
    go_wp2_with fail
    refine (Calls.mono HH.out ?_)
    rintro e w' ⟨rfl, rfl⟩
    go_wp2_with fail
    go_ret
    exact RO.same HRS.out (Fr.refl _ _)
  | true =>
    rw [hi] at HH
    obtain ⟨A, t, B, hth, rfl, hi0, hi1⟩ := inT_split hi
    have hab := abs_at (i := ((A.length : Nat) : Int)) hth rfl
    have ht : t ∈ R.ths := by rw [hth]; simp
    have ct := HR.out.th_at hth
    have hL := HR.out.Fs t ht
    by_cases h0 : t.fs = []
    · have e : popA R.abs ((A.length : Nat) : Int) = (R.abs, 54) := by
        unfold popA
        rw [if_neg (by rw [hi]; simp), hab, if_pos (by unfold Thr.ls; rw [h0]; rfl)]
      rw [e]
      rw [h0] at hL
      obtain ⟨AA, cp, hv, hcp, hcm⟩ := hL.look
      rw [hv] at ct
      simp only [List.length_nil] at ct
      clear hi e hab hL hv h0 ht hth
      go_enter Tryz.func48, Tryz.ntmps48
      go_wp2_with fail
      refine (Calls.mono HH.out ?_)
      rintro e w' ⟨rfl, rfl⟩
      go_wp2_with fail
      go_ret
      exact RO.same HRS.out (Fr.refl _ _)
    · obtain ⟨C, f, hC⟩ := last_split h0
      have e : popA R.abs ((A.length : Nat) : Int) = ({ R.abs with ths := R.abs.ths.set A.length (C.map Frm.l) }, 0) := by
        unfold popA
        rw [if_neg (by rw [hi]; simp), hab, if_neg (by unfold Thr.ls; rw [hC]; simp)]
        unfold Thr.ls
        rw [hC, List.map_append]
        simp
      rw [e]
      obtain ⟨gb, off, cap, hv, _, _, hnc, hcm, _⟩ := hL.form (by rw [hC]; simp)
      rw [hC] at hv hnc
      have hlen : (C ++ [f]).length = C.length + 1 := by simp
      rw [hlen] at hv hnc
      rw [hv] at ct
      have ft := HR.out.Th.free A.length
      have HX := Lib.hid (HR.out.popped HB0.out hth hC hv)
      obtain ⟨q, hq⟩ : ∃ q, C.length = q := ⟨_, rfl⟩
      rw [hq] at ct hnc HX
      have hql : q + 1 ≤ 9223372036854775807 := by unfold maxLen at hcm; omega
      have hcl : cap ≤ 9223372036854775807 := by unfold maxLen at hcm; omega
      have hq2 : IntKind.i64.wrap (((q + 1 : Nat) : Int) - 1) = (q : Int) := by rw [show ((q + 1 : Nat) : Int) - 1 = (q : Int) by omega]; exact IntWalk.i64_in _ (by omega)
      have hz1 : (((q + 1 : Nat) : Int) == 0) = false := by simpa using (show ¬ ((q + 1 : Nat) : Int) = 0 by omega)
      have hq0 : (0 : Int) ≤ (q : Int) := by omega
      have hq6 : IntKind.i64.wrap (q : Int) = (q : Int) := IntWalk.i64_in _ (by omega)
      have hq3 : (q : Int) ≤ (cap : Int) := by omega
      have lg := HR.out.B.lt
      have lt := HR.out.Th.lt
      clear hi e hab hL hv h0 ht hth hlen hC hq
      go_enter Tryz.func48, Tryz.ntmps48
      go_wp2_with fail
      refine (Calls.mono HH.out ?_)
      rintro e w' ⟨rfl, rfl⟩
      go_upto_region 6 with fail
      obtain ⟨z, hz⟩ : ∃ z, z = w.drew := ⟨_, rfl⟩
      have d1 : z.cell? ⟨g, 1, none⟩ = some (.slice (some ⟨R.gT, 0, none⟩) R.ths.length R.ths.length) := by rw [hz]; exact c1
      have d2 : z.cell? ⟨R.gT, A.length, none⟩ = some (.slice (some ⟨gb, off, none⟩) (q + 1) cap) := by rw [hz]; exact ct
      have d3 : z.frozen? ⟨R.gT, A.length, none⟩ = false := by rw [hz]; exact ft
      have HZ := Lib.hid hz
      clear hz c1 ct ft
      refine wp_region_still_tail 16 (by kernel_rfl) (by kernel_rfl) ?_
      change wpStill _ _ w.drew _ _ _
      rw [← HZ.out]
      simp only [List.take_succ_cons, List.take_zero, List.drop_succ_cons, List.drop_zero]
      repeat still_step
      refine wpStill_nil ?_
      change wpList _ _ _ _ _ w.drew
      rw [← HZ.out]
      go_wp2_with fail
      go_ret
      obtain ⟨_, F', k1, k2, k3⟩ := HX.out
      rw [HZ.out]
      exact ⟨rfl, F', k1.nil ((Fr.refl [] _).drew), k2.drew, k3⟩

/-- A new list of numbers. -/
def NewL (l : List Int) (w : World) (e : Ending) (w' : World) : Prop := ∃ v, e = .returned v ∧ Lst w' w.heap.size 3 1 v l.length (iV l) ∧ Fr [] w w'

set_option maxRecDepth 100000 in
set_option maxHeartbeats 1600000 in
theorem frames_any {b0 : Nat} {w : World} {g : Nat} {a : RA} {F : List Nat} (h : RS b0 w g a F) (i : Int) :
    Calls Tryz.prog 15 #[.pointer (some ⟨g, 0, none⟩), .int .i64 i] w (NewL (framesA a i) w) := by
  obtain ⟨R, hR, rfl, rfl⟩ := h
  have HH := Lib.hid (hR.hasC i w rfl)
  have c1 : w.cell? ⟨g, 1, none⟩ = some (.slice (some ⟨R.gT, 0, none⟩) R.ths.length R.ths.length) := hR.B.cell 1
  have HR := Lib.hid hR
  obtain ⟨o1, o2, o3, o4, o5⟩ := hR.ok
  clear hR
  cases hi : inT R.abs i with
  | false =>
    have e : framesA R.abs i = [] := by unfold framesA; rw [if_pos hi]
    rw [hi] at HH
    rw [e]
    clear hi e
    go_enter Tryz.func15, Tryz.ntmps15
    go_wp2_with fail
    refine (Calls.mono HH.out ?_)
    rintro e w' ⟨rfl, rfl⟩
    go_wp2_with fail
    go_ret
    exact ⟨_, rfl, Lst.nil _ _ _ _, Fr.refl _ _⟩
  | true =>
    rw [hi] at HH
    obtain ⟨A, t, B, hth, rfl, hi0, hi1⟩ := inT_split hi
    have hab := abs_at (i := ((A.length : Nat) : Int)) hth rfl
    have ht : t ∈ R.ths := by rw [hth]; simp
    have ct := HR.out.th_at hth
    have hL := HR.out.Fs t ht
    obtain ⟨AA, cp, hv, hcp, hcm⟩ := hL.look
    obtain ⟨L, hLd⟩ : ∃ L, t.fs.map (fun f => (f.l.length : Int)) = L := ⟨_, rfl⟩
    have e : framesA R.abs ((A.length : Nat) : Int) = L := by
      unfold framesA
      rw [if_neg (by rw [hi]; simp), hab, ← hLd]
      unfold Thr.ls
      rw [List.map_map]
      rfl
    rw [e]
    obtain ⟨m, hm⟩ : ∃ m, t.fs.length = m := ⟨_, rfl⟩
    have HT := Lib.hid ht
    have HV := Lib.hid hv
    have HM := Lib.hid hm
    have HLL : Hid (L.length = m) := by show L.length = m; rw [← hLd, List.length_map, hm]
    have HLD := Lib.hid hLd
    rw [hm] at hcp
    rw [hv, hm] at ct
    have hm4 : m ≤ 9223372036854775807 := by unfold maxLen at hcm; omega
    have hroom : Hid (m ≤ 4096) := by
      have h1 := HR.out.one t ht
      have h2 := HR.out.room t ht
      have : t.fs.length ≤ sumL t.ls := by
        unfold Thr.ls
        generalize t.fs = l at h1
        induction l with
        | nil => simp
        | cons f l ih =>
          have := ih (fun f hf => h1 f (by simp [hf]))
          have := h1 f (by simp)
          simp only [sumL, List.map_cons, List.sum_cons, List.length_cons] at *
          omega
      show m ≤ 4096
      omega
    obtain ⟨i2, hi2, hz2, hs2, hb2⟩ := info_parts int_info
    clear hi e hab hL hv ht hth hm hLd
    go_enter Tryz.func15, Tryz.ntmps15
    go_wp2_with fail
    refine (Calls.mono HH.out ?_)
    rintro e w' ⟨rfl, rfl⟩
    go_wp2_with fail
    go_loopw [5, 19] (fun v j wr => ∃ k : Nat, k ≤ m ∧ j = .int .i64 k ∧ Hid (Lst wr w.heap.size 3 1 v k (iV (L.take k)) ∧ Fr [] w wr)) (fun _ j _ => m - (intOf j).toNat)
    case atStart => exact ⟨0, by omega, rfl, Lst.nil _ _ _ _, Fr.refl _ _⟩
    case round =>
      obtain ⟨k, hk, rfl, hx⟩ := hrel
      have HL := Lib.hid hx.out.1
      have HW := Lib.hid hx.out.2
      clear hx
      by_cases hlt : k < m
      · obtain ⟨f, hf⟩ : ∃ f, t.fs[k]? = some f := ⟨_, List.getElem?_eq_getElem (by have := HM.out; omega)⟩
        obtain ⟨gb, off, cap, hv2, hcf⟩ := (HR.out.nil HW.out).f_at HT.out hf
        have hv3 := HV.out
        rw [hv3] at hv2
        injection hv2 with hv2 _ hv4
        subst hv2
        subst hv4
        have hLk : L[k]? = some (f.l.length : Int) := by rw [← HLD.out, List.getElem?_map, hf]; rfl
        have htk : L.take (k + 1) = L.take k ++ [(f.l.length : Int)] := by
          obtain ⟨h1, h2⟩ := List.getElem?_eq_some_iff.1 hLk
          rw [List.take_succ_eq_append_getElem h1, h2]
        have HTK := Lib.hid htk
        have hfm := HT.out
        have hfl : f.l.length ≤ 4096 := by
          have h2 := HR.out.room t HT.out
          have h3 : f.l.length ≤ sumL t.ls := by
            have hls : t.ls[k]? = some f.l := by unfold Thr.ls; rw [List.getElem?_map, hf]; rfl
            have := sumL_take_succ hls
            have := sumL_take_le t.ls (k + 1)
            omega
          omega
        unfold frV at hcf
        obtain ⟨fl, hfl2⟩ : ∃ fl, f.l.length = fl := ⟨_, rfl⟩
        rw [hfl2] at hcf HTK hfl
        have i0 : (0 : Int) ≤ (k : Int) := by omega
        have i1 : (k : Int) < (m : Int) := by omega
        have hsz := HW.out.size
        have hk4 := hroom.out
        clear hLk htk hf hv3 hfm hfl2
        go_wp2_with (at_builtin; refine wpList_append_lst _ rfl (.tmp 23) (.tmp 26) _ rfl w.heap.size 3 i2 _ 1 8 Tryz.underlying29 hi2 hz2 hs2 hb2 rfl _ k (iV (L.take k)) rfl (HL.out.alloc _) ⟨wr.heap.size, 0, none⟩ 1 1 [.int .i64 fl] rfl rfl (World.news_of_block (heap_alloc_new _ _)) ?c2 ?c3 ?c4 ?c5 ?c6)
        case c2 => simp [Value.oneCell']
        case c3 => unfold maxLen; omega
        case c4 => omega
        case c5 => first | omega | (simp; omega)
        case c6 =>
          intro v2 w2 hown hgrow hat
          have HL2 : Hid (Lst w2 w.heap.size 3 1 v2 (k + 1) (iV (L.take (k + 1)))) := by
            show Lst w2 w.heap.size 3 1 v2 (k + 1) (iV (L.take (k + 1)))
            rw [HTK.out]
            unfold iV at hown ⊢
            rw [List.map_append]
            exact hown
          have HW2 : Hid (Fr [] w w2) := ((HW.out.alloc _).grown hgrow (fun j hj => .inr (HL.out.lt j hj).1))
          clear hown hgrow hat
          go_wp2
          go_roundw
          case rel => exact ⟨k + 1, by omega, by go_num, HL2.out, HW2.out⟩
          case measure => simp [intOf]; omega
      · obtain rfl : m = k := by omega
        have hall : L.take m = L := List.take_of_length_le (by rw [HLL.out]; exact Nat.le_refl _)
        rw [hall] at HL
        clear hall hlt hk
        go_wp2_with fail
        go_ret
        exact ⟨_, rfl, by rw [HLL.out]; exact HL.out, HW.out⟩

/-- Where a slot of the top frame lies. -/
def TopAt (R : Rts) (i s : Int) (A : List Thr) (t : Thr) (B : List Thr) (C : List Frm) (f : Frm) (k : Nat) : Prop :=
  R.ths = A ++ t :: B ∧ i = (A.length : Nat) ∧ t.fs = C ++ [f] ∧ s = (k : Nat) ∧ k < f.l.length
theorem topE_ok {R : Rts} {i s : Int} (h : topE R.abs i s = 0) : ∃ A t B C f k, TopAt R i s A t B C f k ∧ inT R.abs i = true ∧ i < (R.ths.length : Int) := by
  unfold topE at h
  cases hi : inT R.abs i with
  | false => rw [if_pos hi] at h; omega
  | true =>
    rw [if_neg (by rw [hi]; simp)] at h
    obtain ⟨A, t, B, hth, rfl, hi0, hi1⟩ := inT_split hi
    rw [abs_at hth rfl] at h
    by_cases h0 : t.fs = []
    · rw [if_pos (by unfold Thr.ls; rw [h0]; rfl)] at h
      omega
    · obtain ⟨C, f, hC⟩ := last_split h0
      rw [if_neg (by unfold Thr.ls; rw [hC]; simp)] at h
      have e : t.ls.getLastD [] = f.l := by unfold Thr.ls; rw [hC]; simp
      rw [e] at h
      split at h
      · omega
      · obtain ⟨k, rfl⟩ := Int.eq_ofNat_of_zero_le (show 0 ≤ s by omega)
        exact ⟨A, t, B, C, f, k, ⟨hth, rfl, hC, rfl, by omega⟩, rfl, hi1⟩

set_option maxRecDepth 100000 in
set_option maxHeartbeats 1600000 in
theorem top_ok {b0 : Nat} {w : World} {g : Nat} {R : Rts} (h : RT b0 w g R) {i s : Int} {A B : List Thr} {t : Thr} {C : List Frm} {f : Frm} {k : Nat} (hT : TopAt R i s A t B C f k) (hi : inT R.abs i = true) :
    Calls Tryz.prog 88 #[.pointer (some ⟨g, 0, none⟩), .int .i64 i, .int .i64 s] w fun e w' => e = .returned (.tuple #[.pointer (some ⟨f.b, k, none⟩), .int .i64 0]) ∧ w = w' := by
  obtain ⟨hth, rfl, hC, rfl, hk⟩ := hT
  have HH := Lib.hid (h.hasC ((A.length : Nat) : Int) w rfl)
  rw [hi] at HH
  have c1 : w.cell? ⟨g, 1, none⟩ = some (.slice (some ⟨R.gT, 0, none⟩) R.ths.length R.ths.length) := h.B.cell 1
  have ht : t ∈ R.ths := by rw [hth]; simp
  have ct := h.th_at hth
  obtain ⟨gb, off, cap, hv, hcf⟩ := h.f_at ht (k := C.length) (f := f) (by rw [hC]; simp)
  have hlen : t.fs.length = C.length + 1 := by rw [hC]; simp
  have hlk := (h.Fs t ht).look
  rw [hv, hlen] at ct
  clear hlk
  have hls : f.l.length ≤ 4096 := by
    have h2 := h.room t ht
    have h3 : f.l.length ≤ sumL t.ls := by
      have hls : t.ls[C.length]? = some f.l := by unfold Thr.ls; rw [hC, List.map_append]; simp
      have := sumL_take_succ hls
      have := sumL_take_le t.ls (C.length + 1)
      omega
    have := h.ok.2.2.2.1
    omega
  have hcap := (h.Fs t ht).look
  obtain ⟨o1, o2, o3, o4, o5⟩ := h.ok
  have hi1 : ((A.length : Nat) : Int) < (R.ths.length : Int) := by rw [hth]; simp; omega
  have hi0 : (0 : Int) ≤ ((A.length : Nat) : Int) := by omega
  have hq5 : C.length + 1 ≤ 9223372036854775807 := by
    obtain ⟨_, cp, hv3, h3, h4⟩ := hcap
    rw [hlen] at h3
    unfold maxLen at h4
    omega
  obtain ⟨q, hq⟩ : ∃ q, C.length = q := ⟨_, rfl⟩
  unfold frV at hcf
  obtain ⟨fl, hfl⟩ : ∃ fl, f.l.length = fl := ⟨_, rfl⟩
  rw [hfl] at hcf hk hls
  rw [hq] at ct hcf hq5
  have hq2 : IntKind.i64.wrap (((q + 1 : Nat) : Int) - 1) = (q : Int) := by rw [show ((q + 1 : Nat) : Int) - 1 = (q : Int) by omega]; exact IntWalk.i64_in _ (by omega)
  have hz1 : (((q + 1 : Nat) : Int) == 0) = false := by simpa using (show ¬ ((q + 1 : Nat) : Int) = 0 by omega)
  have hq0 : (0 : Int) ≤ (q : Int) := by omega
  have hq3 : (q : Int) < ((q + 1 : Nat) : Int) := by omega
  have k0 : (0 : Int) ≤ (k : Int) := by omega
  have k1 : (k : Int) < (fl : Int) := by omega
  have k2 : decide ((k : Int) < 0) = false := decide_eq_false (by omega)
  have k3 : decide ((fl : Int) ≤ (k : Int)) = false := decide_eq_false (by omega)
  have k4 : decide (fl ≤ k) = false := decide_eq_false (by omega)
  have hq6 : IntKind.i64.wrap (q : Int) = (q : Int) := IntWalk.i64_in _ (by omega)
  have hz2 : ((q : Int) + 1 == 0) = false := by simpa using (show ¬ (q : Int) + 1 = 0 by omega)
  clear h hi hth ht hv hlen hC hq hfl hcap
  go_enter Tryz.func88, Tryz.ntmps88
  go_wp2_with fail
  refine (Calls.mono HH.out ?_)
  rintro e w' ⟨rfl, rfl⟩
  go_wp2_with fail
  go_ret2
  exact ⟨rfl, rfl⟩
end Go.Proofs.YtdcppdgnekhcgaaGreatDoor
