/-
  Roots in general: Handles, Open, the queue.
-/
import Derived.Test.YtdcppdgnekhcgaaGreatDoorRtS6
namespace Go.Proofs.YtdcppdgnekhcgaaGreatDoor
open Go.RowKit
set_option maxRecDepth 100000
set_option linter.unusedVariables false

set_option maxRecDepth 100000 in
set_option maxHeartbeats 3200000 in
theorem handles_any {b0 : Nat} {w : World} {g : Nat} {a : RA} {F : List Nat} (h : RS b0 w g a F) :
    Calls Tryz.prog 13 #[.pointer (some ⟨g, 0, none⟩)] w (NewL (handlesA a) w) := by
  obtain ⟨R, hR, rfl, rfl⟩ := h
  have hH1 := hR.ok.2.2.2.2
  have c2 : w.cell? ⟨g, 2, none⟩ = some (.slice (some ⟨R.gH, 0, none⟩) R.hs.length R.hs.length) := hR.B.cell 2
  obtain ⟨L, hL⟩ : ∃ L, handlesA R.abs = L := ⟨_, rfl⟩
  obtain ⟨H, hH⟩ : ∃ H, R.hs.length = H := ⟨_, rfl⟩
  have HLL : Hid (L.length = H) := by show L.length = H; rw [← hL, ← hH]; unfold handlesA Rts.abs; simp
  have HLA : Hid (∀ (k : Nat) (p : Bool × Int), R.hs[k]? = some p → L[k]? = some (if p.1 then p.2 else -1)) := fun k p hp => by
    rw [← hL]; unfold handlesA Rts.abs; simp only [List.getElem?_map, hp]; rfl
  rw [hL]
  rw [hH] at c2 hH1
  have HR := Lib.hid hR
  have HHH := Lib.hid hH
  obtain ⟨i2, hi2, hz2, hs2, hb2⟩ := info_parts int_info
  clear hR hL hH
  go_enter Tryz.func13, Tryz.ntmps13
  go_wp2_with fail
  go_loopw [3, 11] (fun v i wr => ∃ k : Nat, k ≤ H ∧ i = .int .i64 k ∧ Hid (Lst wr w.heap.size 3 1 v k (iV (L.take k)) ∧ Fr [] w wr)) (fun _ i _ => H - (intOf i).toNat)
  case atStart => exact ⟨0, by omega, rfl, Lst.nil _ _ _ _, Fr.refl _ _⟩
  case round =>
    obtain ⟨k, hk, rfl, hx⟩ := hrel
    have HL := Lib.hid hx.out.1
    have HW := Lib.hid hx.out.2
    clear hx c2
    by_cases hlt : k < H
    · obtain ⟨⟨o, x⟩, hp⟩ : ∃ p, R.hs[k]? = some p := ⟨_, List.getElem?_eq_getElem (by have := HHH.out; omega)⟩
      obtain ⟨ck, ck1⟩ := (HR.out.nil HW.out).h_at hp
      have hLk := HLA.out k _ hp
      have htk : L.take (k + 1) = L.take k ++ [if o then x else -1] := by
        obtain ⟨h1, h2⟩ := List.getElem?_eq_some_iff.1 hLk
        rw [List.take_succ_eq_append_getElem h1, h2]
      have HTK := Lib.hid htk
      have hl := ((HR.out.nil HW.out).Hd).lt
      have i1 : (0 : Int) ≤ (k : Int) := by omega
      have i2' : (k : Int) < (H : Int) := by omega
      have hsz := HW.out.size
      clear hp hLk htk
      cases o with
      | false =>
        go_wp2_with (at_builtin; refine wpList_append_lst _ rfl (.tmp 22) (.tmp 23) _ rfl w.heap.size 3 i2 _ 1 8 Tryz.underlying29 hi2 hz2 hs2 hb2 rfl _ k (iV (L.take k)) rfl ((HL.out.alloc _).alloc _) ⟨wr.heap.size + 1, 0, none⟩ 1 1 [.int .i64 (-1)] rfl rfl (World.news_of_block ((Bk.new_at _ _ _ _ (by simp)))) ?c2 ?c3 ?c4 ?c5 ?c6)
        case c2 => simp [Value.oneCell']
        case c3 => unfold maxLen; omega
        case c4 => omega
        case c5 => first | omega | (simp; omega)
        case c6 =>
          intro v2 w2 hown hgrow hat
          have HL2 : Hid (Lst w2 w.heap.size 3 1 v2 (k + 1) (iV (L.take (k + 1)))) := by
            show Lst w2 w.heap.size 3 1 v2 (k + 1) (iV (L.take (k + 1)))
            rw [HTK.out]
            unfold iV at hown ⊢
            rw [List.map_append]
            exact hown
          have HW2 : Hid (Fr [] w w2) := (((HW.out.alloc _).alloc _).grown hgrow (fun j hj => .inr (HL.out.lt j hj).1))
          clear hown hgrow hat
          go_wp2
          go_roundw
          case rel => exact ⟨k + 1, by omega, by go_num, HL2.out, HW2.out⟩
          case measure => simp [intOf]; omega
      | true =>
        go_wp2_with (at_builtin; refine wpList_append_lst _ rfl (.tmp 17) (.tmp 20) _ rfl w.heap.size 3 i2 _ 1 8 Tryz.underlying29 hi2 hz2 hs2 hb2 rfl _ k (iV (L.take k)) rfl ((HL.out.alloc _).alloc _) ⟨wr.heap.size + 1, 0, none⟩ 1 1 [.int .i64 x] rfl rfl (World.news_of_block ((Bk.new_at _ _ _ _ (by simp)))) ?c2 ?c3 ?c4 ?c5 ?c6)
        case c2 => simp [Value.oneCell']
        case c3 => unfold maxLen; omega
        case c4 => omega
        case c5 => first | omega | (simp; omega)
        case c6 =>
          intro v2 w2 hown hgrow hat
          have HL2 : Hid (Lst w2 w.heap.size 3 1 v2 (k + 1) (iV (L.take (k + 1)))) := by
            show Lst w2 w.heap.size 3 1 v2 (k + 1) (iV (L.take (k + 1)))
            rw [HTK.out]
            unfold iV at hown ⊢
            rw [List.map_append]
            exact hown
          have HW2 : Hid (Fr [] w w2) := (((HW.out.alloc _).alloc _).grown hgrow (fun j hj => .inr (HL.out.lt j hj).1))
          clear hown hgrow hat
          go_wp2
          go_roundw
          case rel => exact ⟨k + 1, by omega, by go_num, HL2.out, HW2.out⟩
          case measure => simp [intOf]; omega
    · obtain rfl : H = k := by omega
      have hall : L.take H = L := List.take_of_length_le (by rw [HLL.out]; exact Nat.le_refl _)
      rw [hall] at HL
      clear hall hlt hk
      go_wp2_with fail
      go_ret
      exact ⟨_, rfl, by rw [HLL.out]; exact HL.out, HW.out⟩

theorem open1 (o : Bool) (x : Int) (w : World) : Calls Tryz.prog 52 #[.agg #[.bool o, .int .i64 x]] w fun e w' => e = .returned (.bool (!o)) ∧ Fr [] w w' := by
  cases o
  all_goals
    go_enter Tryz.func52, Tryz.ntmps52
    go_wp2_with fail
    go_ret
    exact ⟨rfl, (Fr.refl _ _).alloc _⟩

def idxI (o : Option Nat) : Int := match o with
  | none => -1
  | some k => k
theorem findIdx_step {α : Type} {p : α → Bool} : ∀ {l : List α} {k : Nat}, (∀ j x, j < k → l[j]? = some x → p x = false) → (∀ x, l[k]? = some x → p x = true) → k < l.length → l.findIdx? p = some k
  | [], k, _, _, h => by simp at h
  | x :: l, 0, _, h2, _ => by rw [List.findIdx?_cons, if_pos (h2 x rfl)]
  | x :: l, k + 1, h1, h2, h3 => by
    rw [List.findIdx?_cons, if_neg (by rw [h1 0 x (by omega) rfl]; simp), findIdx_step (l := l) (k := k) (fun j y hj hy => h1 (j + 1) y (by omega) (by simpa using hy)) (fun y hy => h2 y (by simpa using hy)) (by simpa using h3)]
    rfl

set_option maxRecDepth 100000 in
set_option maxHeartbeats 1600000 in
theorem index_any {b0 : Nat} {w : World} {g : Nat} {R : Rts} (hR : RT b0 w g R) :
    Calls Tryz.prog 51 #[.slice (some ⟨R.gH, 0, none⟩) R.hs.length R.hs.length, .func (.func 52) #[] #[]] w fun e w' => e = .returned (.int .i64 (idxI (R.hs.findIdx? (fun p => !p.1)))) ∧ Fr [] w w' := by
  have hH1 := hR.ok.2.2.2.2
  obtain ⟨H, hH⟩ : ∃ H, R.hs.length = H := ⟨_, rfl⟩
  rw [hH] at hH1 ⊢
  have HR := Lib.hid hR
  have HHH := Lib.hid hH
  obtain ⟨I, hI⟩ : ∃ I, idxI (R.hs.findIdx? (fun p => !p.1)) = I := ⟨_, rfl⟩
  have HI := Lib.hid hI
  rw [hI]
  clear hR hH hI
  go_enter Tryz.func51, Tryz.ntmps51
  go_wp2_with fail
  go_loopw [8] (fun i wr => ∃ k : Nat, k ≤ H ∧ i = .int .i64 k ∧ Hid (Fr [] w wr) ∧ Hid (∀ j p, j < k → R.hs[j]? = some p → p.1 = true)) (fun i _ => H - (intOf i).toNat)
  case atStart => exact ⟨0, by omega, rfl, Fr.refl _ _, fun j p hj => by omega⟩
  case round =>
    obtain ⟨k, hk, rfl, HW, HP⟩ := hrel
    by_cases hlt : k < H
    · obtain ⟨⟨o, x⟩, hp⟩ : ∃ p, R.hs[k]? = some p := ⟨_, List.getElem?_eq_getElem (by have := HHH.out; omega)⟩
      obtain ⟨ck, ck1⟩ := (HR.out.nil HW.out).h_at hp
      have HPP := Lib.hid hp
      have i1 : (0 : Int) ≤ (k : Int) := by omega
      have i2' : (k : Int) < (H : Int) := by omega
      clear hp
      go_wp2_with fail
      refine (open1 o x wr).mono ?_
      rintro e w2 ⟨rfl, hf⟩
      have HW2 : Hid (Fr [] w w2) := HW.out.trans hf (by simp)
      clear hf ck ck1
      cases o with
      | true =>
        go_wp2_with fail
        go_roundw
        case rel => exact ⟨k + 1, by omega, by go_num, HW2.out, fun j p hj hpj => by
          by_cases e : j = k
          · subst e
            rw [HPP.out] at hpj
            injection hpj with hpj
            rw [← hpj]
          · exact HP.out j p (by omega) hpj⟩
        case measure => simp [intOf]; omega
      | false =>
        have hI2 : I = (k : Int) := by
          rw [← HI.out, findIdx_step (k := k) (fun j p hj hpj => by rw [HP.out j p hj hpj]; rfl) (fun p hpj => by
            rw [HPP.out] at hpj
            injection hpj with hpj
            rw [← hpj]
            rfl) (by have := HHH.out; omega)]
          rfl
        have HI2 := Lib.hid hI2
        clear hI2
        go_wp2_with fail
        go_ret
        exact ⟨by rw [HI2.out]; rfl, HW2.out⟩
    · have hI2 : I = -1 := by
        have : R.hs.findIdx? (fun p => !p.1) = none := by
          rw [List.findIdx?_eq_none_iff]
          intro p hp
          obtain ⟨j, hj⟩ := List.mem_iff_getElem?.1 hp
          rw [HP.out j p (by have := (List.getElem?_eq_some_iff.1 hj).1; have := HHH.out; omega) hj]
          rfl
        rw [← HI.out, this]
        rfl
      have HI2 := Lib.hid hI2
      obtain rfl : H = k := by omega
      clear hI2 hlt hk
      go_wp2_with fail
      go_ret
      exact ⟨by rw [HI2.out]; rfl, HW.out⟩

set_option maxRecDepth 100000 in
set_option maxHeartbeats 1600000 in
theorem open_any {b0 : Nat} {w : World} {g : Nat} {a : RA} {F : List Nat} (h : RS b0 w g a F) (x : Int) :
    Calls Tryz.prog 11 #[.pointer (some ⟨g, 0, none⟩), .int .i64 x] w (RO b0 g (openA a x).1 F (.tuple #[.int .i64 (openA a x).2.1, .int .i64 (openA a x).2.2]) w) := by
  have HRS := Lib.hid h
  obtain ⟨R, hR, rfl, rfl⟩ := h
  have hH1 := hR.ok.2.2.2.2
  have c2 : w.cell? ⟨g, 2, none⟩ = some (.slice (some ⟨R.gH, 0, none⟩) R.hs.length R.hs.length) := hR.B.cell 2
  have HX := Lib.hid (index_any hR)
  have HR := Lib.hid hR
  cases ho : R.hs.findIdx? (fun p => !p.1) with
  | none =>
    have e : openA R.abs x = (R.abs, 0, 56) := by unfold openA Rts.abs; simp only [ho]
    rw [ho] at HX
    rw [e]
    clear ho e hR
    unfold idxI at HX
    go_enter Tryz.func11, Tryz.ntmps11
    go_wp2_with fail
    refine (Calls.mono HX.out ?_)
    rintro e w' ⟨rfl, hf⟩
    have HF := Lib.hid hf
    clear hf
    go_wp2_with fail
    go_ret2
    exact RO.same HRS.out HF.out
  | some k =>
    have e : openA R.abs x = ({ R.abs with hs := R.hs.set k (true, max x 0) }, (k : Int), 0) := by unfold openA Rts.abs; simp only [ho]
    rw [ho] at HX
    rw [e]
    have hk : k < R.hs.length := by
      obtain ⟨h1, _⟩ := List.findIdx?_eq_some_iff_getElem.1 ho
      exact h1
    obtain ⟨p, hp⟩ : ∃ p, R.hs[k]? = some p := ⟨_, List.getElem?_eq_getElem hk⟩
    have HP := Lib.hid hp
    have i0 : (0 : Int) ≤ (k : Int) := by omega
    have i1 : (k : Int) < (R.hs.length : Int) := by omega
    have d0 : decide ((k : Int) < 0) = false := decide_eq_false (by omega)
    clear ho e hR hp
    unfold idxI at HX
    rcases (show 0 ≤ x ∨ x < 0 by omega) with hx | hx
    · have hm : max x 0 = x := by omega
      rw [hm]
      go_enter Tryz.func11, Tryz.ntmps11
      go_wp2_with fail
      refine (Calls.mono HX.out ?_)
      rintro e w' ⟨rfl, hf⟩
      have hR2 := HR.out.nil hf
      have e2 := hR2.B.cell 2
      have ck := (hR2.h_at HP.out).1
      have ck1 := (hR2.h_at HP.out).2
      have fk := hR2.Hd.free (k * 2)
      have fk1 := hR2.Hd.free (k * 2 + 1)
      have HK := Lib.hid (hR2.hput k (true, x) (r := .tuple #[.int .i64 (k : Int), .int .i64 0]))
      have HF := Lib.hid hf
      clear hf hR2 c2
      go_wp2_with fail
      go_ret2
      obtain ⟨q1, F', q2, q3, q4⟩ := HK.out
      exact ⟨rfl, F', q2, (HF.out.mono (by simp)).trans q3 (fun z hz => .inl hz), fun z hz => by
        rcases q4 z hz with q | q
        · exact .inl q
        · exact .inr (Nat.le_trans HF.out.size q)⟩
    · have hm : max x 0 = 0 := by omega
      rw [hm]
      go_enter Tryz.func11, Tryz.ntmps11
      go_wp2_with fail
      refine (Calls.mono HX.out ?_)
      rintro e w' ⟨rfl, hf⟩
      have hR2 := HR.out.nil hf
      have e2 := hR2.B.cell 2
      have ck := (hR2.h_at HP.out).1
      have ck1 := (hR2.h_at HP.out).2
      have fk := hR2.Hd.free (k * 2)
      have fk1 := hR2.Hd.free (k * 2 + 1)
      have HK := Lib.hid (hR2.hput k (true, 0) (r := .tuple #[.int .i64 (k : Int), .int .i64 0]))
      have HF := Lib.hid hf
      clear hf hR2 c2
      go_wp2_with fail
      go_ret2
      obtain ⟨q1, F', q2, q3, q4⟩ := HK.out
      exact ⟨rfl, F', q2, (HF.out.mono (by simp)).trans q3 (fun z hz => .inl hz), fun z hz => by
        rcases q4 z hz with q | q
        · exact .inl q
        · exact .inr (Nat.le_trans HF.out.size q)⟩
end Go.Proofs.YtdcppdgnekhcgaaGreatDoor
