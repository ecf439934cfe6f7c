/-
  Roots: a script played.
-/
import Derived.Test.YtdcppdgnekhcgaaGreatDoorRtS12
namespace Go.Proofs.YtdcppdgnekhcgaaGreatDoor
open Go.RowKit
set_option maxRecDepth 100000
set_option linter.unusedVariables false

structure Oq where
  k : Int
  t : Int
  n : Int
  a : Int
  s : Bool
  la : Option Addr
  ln : Nat
  lc : Nat
/-- From this address on lie these steps. -/
def RdO (w : World) (A : Option Addr) (l : List Oq) : Prop :=
  l.length ≤ 2200000000000 ∧ (0 < l.length → ∃ b o, A = some ⟨b, o, none⟩ ∧ b < w.heap.size ∧ ∀ i q, l[i]? = some q → w.cell? ⟨b, o + i * 6, none⟩ = some (.int .i64 q.k) ∧ w.cell? ⟨b, o + i * 6 + 1, none⟩ = some (.int .i64 q.t) ∧ w.cell? ⟨b, o + i * 6 + 2, none⟩ = some (.int .i64 q.n) ∧
    w.cell? ⟨b, o + i * 6 + 3, none⟩ = some (.int .i64 q.a) ∧ w.cell? ⟨b, o + i * 6 + 4, none⟩ = some (.bool q.s) ∧ w.cell? ⟨b, o + i * 6 + 5, none⟩ = some (.slice q.la q.ln q.lc))
theorem RdO.fr {w w' : World} {A : Option Addr} {l : List Oq} (h : RdO w A l) (hf : Fr [] w w') : RdO w' A l :=
  ⟨h.1, fun h0 => by
    obtain ⟨b, o, e, hb, hc⟩ := h.2 h0
    refine ⟨b, o, e, Nat.lt_of_lt_of_le hb hf.size, fun i q hq => ?_⟩
    have hx := hf.block b hb (by simp)
    obtain ⟨c0, c1, c2, c3, c4, c5⟩ := hc i q hq
    exact ⟨(World.cell?_of_block hx).trans c0, (World.cell?_of_block hx).trans c1, (World.cell?_of_block hx).trans c2, (World.cell?_of_block hx).trans c3, (World.cell?_of_block hx).trans c4, (World.cell?_of_block hx).trans c5⟩⟩

/-- One step of a script. -/
def playA (a : RA) (o : Oq) : RA :=
  if o.k = 1 then (pushA a o.t o.n).1 else if o.k = 2 then (popA a o.t).1 else if o.k = 5 then (setA a o.t o.n o.a).1 else if o.k = 6 then (openA a o.a).1 else if o.k = 8 then (closeA a o.n).1
  else if o.k = 10 then enqA a o.a else if o.k = 11 then (deqA a).1 else a
def playL (a : RA) (l : List Oq) : RA := l.foldl playA a
theorem playL_succ {a : RA} {l : List Oq} {k : Nat} {o : Oq} (h : l[k]? = some o) : playL a (l.take (k + 1)) = playA (playL a (l.take k)) o := by
  obtain ⟨h1, h2⟩ := List.getElem?_eq_some_iff.1 h
  unfold playL
  rw [List.take_succ_eq_append_getElem h1, h2, List.foldl_append]
  rfl
theorem push_q (a : RA) (t n : Int) : (pushA a t n).1.q = a.q := by unfold pushA; split; rfl; split; rfl; split <;> rfl
theorem pop_q (a : RA) (t : Int) : (popA a t).1.q = a.q := by unfold popA; split; rfl; split <;> rfl
theorem set_q (a : RA) (t n x : Int) : (setA a t n x).1.q = a.q := by unfold setA; split <;> rfl
theorem open_q (a : RA) (x : Int) : (openA a x).1.q = a.q := by unfold openA; split <;> rfl
theorem close_q (a : RA) (n : Int) : (closeA a n).1.q = a.q := by unfold closeA; split <;> rfl
theorem deq_q (a : RA) : (deqA a).1.q.length ≤ a.q.length := by unfold deqA; split <;> rename_i h <;> rw [h] <;> simp
theorem playA_q (a : RA) (o : Oq) : (playA a o).q.length ≤ a.q.length + 1 := by
  unfold playA
  split
  · rw [push_q]; omega
  split
  · rw [pop_q]; omega
  split
  · rw [set_q]; omega
  split
  · rw [open_q]; omega
  split
  · rw [close_q]; omega
  split
  · simp [enqA]
  split
  · have := deq_q a; omega
  · omega
theorem playL_q (l : List Oq) (a : RA) : (playL a l).q.length ≤ a.q.length + l.length := by
  induction l generalizing a with
  | nil => simp [playL]
  | cons o l ih =>
    have h1 := ih (playA a o)
    have h2 := playA_q a o
    show (playL (playA a o) l).q.length ≤ _
    rw [List.length_cons]
    omega

def Played (w0 : World) (a : RA) (w : World) (e : Ending) (w' : World) : Prop := ∃ g F, e = .returned (.tuple #[.pointer (some ⟨g, 0, none⟩), .bool true]) ∧ Sn w0 g a F w' ∧ Fr [] w w'
/-- The roots that a script leads to. -/
def goalA (T S H : Int) (l : List Oq) : RA := playL (newA (1 + placeF T 8).toNat (1 + placeF S 40).toNat (placeF H 12).toNat) l

set_option maxRecDepth 100000 in
set_option maxHeartbeats 6400000 in
theorem played_any (T S H : Int) (A : Option Addr) (n c : Nat) (l : List Oq) (w0 w : World) (hT : inI T) (hS : inI S) (hH : inI H) (hn : n = l.length) (hr : RdO w0 A l) (hf : Fr [] w0 w) (hw0 : w.heap.size ≤ w0.heap.size) :
    Calls Tryz.prog 9 #[.int .i64 T, .int .i64 S, .int .i64 H, .slice A n c] w (Played w0 (goalA T S H l) w) := by
  have HP1 := Lib.hid (place_any T 8 w hT (by omega))
  have HP2 := Lib.hid (place_any S 40 w hS (by omega))
  have HP3 := Lib.hid (place_any H 12 w hH (by omega))
  obtain ⟨t0, t1⟩ := placeF_in T 8 (by omega)
  obtain ⟨s0, s1⟩ := placeF_in S 40 (by omega)
  obtain ⟨h0, h1⟩ := placeF_in H 12 (by omega)
  unfold goalA
  obtain ⟨pT, hpT⟩ := Int.eq_ofNat_of_zero_le t0
  obtain ⟨pS, hpS⟩ := Int.eq_ofNat_of_zero_le s0
  obtain ⟨pH, hpH⟩ := Int.eq_ofNat_of_zero_le h0
  rw [hpT] at HP1 t1 ⊢
  rw [hpS] at HP2 s1 ⊢
  rw [hpH] at HP3 h1 ⊢
  have e1 : (1 + (pT : Int)).toNat = pT + 1 := by omega
  have e2 : (1 + (pS : Int)).toNat = pS + 1 := by omega
  have e3 : (pH : Int).toNat = pH := by omega
  rw [e1, e2, e3]
  have HNEW := Lib.hid (new_sn (w0 := w0) (pT + 1) (pS + 1) pH (w := w) (by omega) (by omega) (by omega) hf)
  obtain ⟨a0, ha0⟩ : ∃ a0, newA (pT + 1) (pS + 1) pH = a0 := ⟨_, rfl⟩
  have HA0 : Hid (a0.q = []) := by show a0.q = []; rw [← ha0]; rfl
  unfold SnNew at HNEW
  rw [ha0] at HNEW ⊢
  have c1 : ((pT + 1 : Nat) : Int) = (pT : Int) + 1 := by omega
  have c2 : ((pS + 1 : Nat) : Int) = (pS : Int) + 1 := by omega
  rw [c1, c2] at HNEW
  have d1 : (1 : Int) + (pT : Int) = (pT : Int) + 1 := by omega
  have d2 : (1 : Int) + (pS : Int) = (pS : Int) + 1 := by omega
  have w1' : IntKind.i64.wrap (1 + (pT : Int)) = (pT : Int) + 1 := by rw [d1]; exact IntWalk.i64_in _ (by omega)
  have w2' : IntKind.i64.wrap (1 + (pS : Int)) = (pS : Int) + 1 := by rw [d2]; exact IntWalk.i64_in _ (by omega)
  have HW0 := Lib.hid hw0
  have HR := Lib.hid hr
  have HN := Lib.hid hn
  have hn1 := hr.1
  rw [← hn] at hn1
  have D1 := Lib.hid d1
  have D2 := Lib.hid d2
  clear hr hf hw0 hT hS hH hpT hpS hpH ha0 e1 e2 e3 hn c1 c2 d1 d2 t0 s0 h0
  go_enter Tryz.func9, Tryz.ntmps9
  go_wp2_with fail
  refine (Calls.mono HP1.out ?_)
  rintro e w' ⟨rfl, rfl⟩
  go_wp2_with fail
  refine (Calls.mono HP2.out ?_)
  rintro e w' ⟨rfl, rfl⟩
  go_wp2_with fail
  refine (Calls.mono HP3.out ?_)
  rintro e w' ⟨rfl, rfl⟩
  go_wp2_with fail
  try rw [D1.out]
  try rw [D2.out]
  refine (Calls.mono HNEW.out ?_)
  rintro e w1 ⟨g, F0, rfl, hsn, hfr⟩
  have HS0 := Lib.hid hsn
  have HF0 := Lib.hid hfr
  clear hsn hfr HNEW
  go_upto_region 6 with fail
  go_loopw [15] (fun i wr => ∃ k : Nat, k ≤ n ∧ i = .int .i64 k ∧ Hid (∃ F, Sn w0 g (playL a0 (l.take k)) F wr ∧ Fr [] w wr)) (fun i _ => n - (intOf i).toNat)
  case atStart => exact ⟨0, by omega, rfl, F0, HS0.out, HF0.out⟩
  case round =>
    obtain ⟨k, hk, rfl, hx⟩ := hrel
    obtain ⟨F, hSn, hFr⟩ := hx.out
    have HSN := Lib.hid hSn
    have HFR := Lib.hid hFr
    clear hx hSn hFr
    by_cases hlt : k < n
    · obtain ⟨q, hq⟩ : ∃ q, l[k]? = some q := ⟨_, List.getElem?_eq_getElem (by have := HN.out; omega)⟩
      obtain ⟨b, o, rfl, hbl, hcl⟩ := HR.out.2 (by have := HN.out; omega)
      obtain ⟨c0, c1, c2, c3, c4, c5⟩ := hcl k q hq
      have hbk := HSN.out.fr.block b hbl (by simp)
      have c0 := (World.cell?_of_block hbk).trans c0
      have c1 := (World.cell?_of_block hbk).trans c1
      have c2 := (World.cell?_of_block hbk).trans c2
      have c3 := (World.cell?_of_block hbk).trans c3
      have c4 := (World.cell?_of_block hbk).trans c4
      have c5 := (World.cell?_of_block hbk).trans c5
      have i0 : (0 : Int) ≤ (k : Int) := by omega
      have i1 : (k : Int) < (n : Int) := by omega
      have HSUCC := Lib.hid (playL_succ (a := a0) hq)
      have hql : (playL a0 (l.take k)).q.length ≤ 2200000000000 := by
        have := playL_q (l.take k) a0
        rw [HA0.out, List.length_take] at this
        have := HN.out
        simp only [List.length_nil] at *
        omega
      obtain ⟨ak, hak⟩ : ∃ ak, playL a0 (l.take k) = ak := ⟨_, rfl⟩
      rw [hak] at HSN HSUCC hql
      have HAK := Lib.hid hak
      have HQL := Lib.hid hql
      obtain ⟨qk, qt, qn, qa, qs, la, ln, lc⟩ := q
      simp only at c0 c1 c2 c3 c4 c5
      unfold playA at HSUCC
      simp only at HSUCC
      clear hq hcl hbk hak hql
      go_upto_region 9 with fail
      obtain ⟨z, hz⟩ : ∃ z, z = wr.alloc (.cells #[.int .i64 qk, .int .i64 qt, .int .i64 qn, .int .i64 qa, .bool qs, .slice la ln lc] 78) := ⟨_, rfl⟩
      obtain ⟨bx, hbx⟩ : ∃ bx, bx = wr.heap.size := ⟨_, rfl⟩
      have hfz : Fr [] wr z := by rw [hz]; exact (Fr.refl _ _).alloc _
      have hbz : Bk z bx 78 #[.int .i64 qk, .int .i64 qt, .int .i64 qn, .int .i64 qa, .bool qs, .slice la ln lc] := by rw [hz, hbx]; exact Bk.new _ _ _
      have HSZ := Lib.hid (HSN.out.nil hfz)
      have HFZ := Lib.hid (HFR.out.trans hfz (by simp))
      have HBZ := Lib.hid hbz
      rw [← hz]
      rw [← hbx]
      clear hz hbx hfz hbz c0 c1 c2 c3 c4 c5 HSN HFR
      have e0 := HBZ.out.cell 0
      have e1 := HBZ.out.cell 1
      have e2 := HBZ.out.cell 2
      have e3 := HBZ.out.cell 3
      have hb0 : w0.heap.size ≤ z.heap.size := HSZ.out.fr.size
      have HB0 := Lib.hid hb0
      clear hb0
      by_cases hk1 : qk = 1
      · subst hk1
        rw [if_pos rfl] at HSUCC
        go_wp2_with fail
        refine (push_any HSZ.out.rs HB0.out qt qn).mono ?_
        intro e w2 hro
        obtain ⟨rfl, F2, hs2, hf2, _⟩ := HSZ.out.to hro
        have HS2 := Lib.hid hs2
        have HF2 : Hid (Fr [] w w2) := HFZ.out.trans hf2 (fun x hx => .inr (by have := HSZ.out.rs.base x hx; have := HW0.out; omega))
        clear hro hs2 hf2 e0 e1 e2 e3
        go_wp2_with fail
        go_roundw
        case rel => exact ⟨k + 1, by omega, by go_num, F2, by rw [HSUCC.out]; exact HS2.out, HF2.out⟩
        case measure => simp [intOf]; omega
      by_cases hk2 : qk = 2
      · subst hk2
        rw [if_neg (by decide), if_pos rfl] at HSUCC
        go_wp2_with fail
        refine (pop_any HSZ.out.rs HB0.out qt).mono ?_
        intro e w2 hro
        obtain ⟨rfl, F2, hs2, hf2, _⟩ := HSZ.out.to hro
        have HS2 := Lib.hid hs2
        have HF2 : Hid (Fr [] w w2) := HFZ.out.trans hf2 (fun x hx => .inr (by have := HSZ.out.rs.base x hx; have := HW0.out; omega))
        clear hro hs2 hf2 e0 e1 e2 e3
        go_wp2_with fail
        go_roundw
        case rel => exact ⟨k + 1, by omega, by go_num, F2, by rw [HSUCC.out]; exact HS2.out, HF2.out⟩
        case measure => simp [intOf]; omega
      by_cases hk5 : qk = 5
      · subst hk5
        rw [if_neg (by decide), if_neg (by decide), if_pos rfl] at HSUCC
        go_wp2_with fail
        refine (set_any HSZ.out.rs HB0.out qt qn qa).mono ?_
        intro e w2 hro
        obtain ⟨rfl, F2, hs2, hf2, _⟩ := HSZ.out.to hro
        have HS2 := Lib.hid hs2
        have HF2 : Hid (Fr [] w w2) := HFZ.out.trans hf2 (fun x hx => .inr (by have := HSZ.out.rs.base x hx; have := HW0.out; omega))
        clear hro hs2 hf2 e0 e1 e2 e3
        go_wp2_with fail
        go_roundw
        case rel => exact ⟨k + 1, by omega, by go_num, F2, by rw [HSUCC.out]; exact HS2.out, HF2.out⟩
        case measure => simp [intOf]; omega
      by_cases hk6 : qk = 6
      · subst hk6
        rw [if_neg (by decide), if_neg (by decide), if_neg (by decide), if_pos rfl] at HSUCC
        go_wp2_with fail
        refine (open_any HSZ.out.rs qa).mono ?_
        intro e w2 hro
        obtain ⟨rfl, F2, hs2, hf2, _⟩ := HSZ.out.to hro
        have HS2 := Lib.hid hs2
        have HF2 : Hid (Fr [] w w2) := HFZ.out.trans hf2 (fun x hx => .inr (by have := HSZ.out.rs.base x hx; have := HW0.out; omega))
        clear hro hs2 hf2 e0 e1 e2 e3
        go_wp2_with fail
        go_roundw
        case rel => exact ⟨k + 1, by omega, by go_num, F2, by rw [HSUCC.out]; exact HS2.out, HF2.out⟩
        case measure => simp [intOf]; omega
      by_cases hk8 : qk = 8
      · subst hk8
        rw [if_neg (by decide), if_neg (by decide), if_neg (by decide), if_neg (by decide), if_pos rfl] at HSUCC
        go_wp2_with fail
        refine (close_any HSZ.out.rs qn).mono ?_
        intro e w2 hro
        obtain ⟨rfl, F2, hs2, hf2, _⟩ := HSZ.out.to hro
        have HS2 := Lib.hid hs2
        have HF2 : Hid (Fr [] w w2) := HFZ.out.trans hf2 (fun x hx => .inr (by have := HSZ.out.rs.base x hx; have := HW0.out; omega))
        clear hro hs2 hf2 e0 e1 e2 e3
        go_wp2_with fail
        go_roundw
        case rel => exact ⟨k + 1, by omega, by go_num, F2, by rw [HSUCC.out]; exact HS2.out, HF2.out⟩
        case measure => simp [intOf]; omega
      by_cases hk10 : qk = 10
      · subst hk10
        rw [if_neg (by decide), if_neg (by decide), if_neg (by decide), if_neg (by decide), if_neg (by decide), if_pos rfl] at HSUCC
        go_wp2_with fail
        refine (enq_any HSZ.out.rs HB0.out (by have := HQL.out; omega) qa).mono ?_
        intro e w2 hro
        obtain ⟨rfl, F2, hs2, hf2, _⟩ := HSZ.out.to hro
        have HS2 := Lib.hid hs2
        have HF2 : Hid (Fr [] w w2) := HFZ.out.trans hf2 (fun x hx => .inr (by have := HSZ.out.rs.base x hx; have := HW0.out; omega))
        clear hro hs2 hf2 e0 e1 e2 e3
        go_wp2_with fail
        go_roundw
        case rel => exact ⟨k + 1, by omega, by go_num, F2, by rw [HSUCC.out]; exact HS2.out, HF2.out⟩
        case measure => simp [intOf]; omega
      by_cases hk11 : qk = 11
      · subst hk11
        rw [if_neg (by decide), if_neg (by decide), if_neg (by decide), if_neg (by decide), if_neg (by decide), if_neg (by decide), if_pos rfl] at HSUCC
        go_wp2_with fail
        refine (deq_any HSZ.out.rs HB0.out).mono ?_
        intro e w2 hro
        obtain ⟨rfl, F2, hs2, hf2, _⟩ := HSZ.out.to hro
        have HS2 := Lib.hid hs2
        have HF2 : Hid (Fr [] w w2) := HFZ.out.trans hf2 (fun x hx => .inr (by have := HSZ.out.rs.base x hx; have := HW0.out; omega))
        clear hro hs2 hf2 e0 e1 e2 e3
        go_wp2_with fail
        go_roundw
        case rel => exact ⟨k + 1, by omega, by go_num, F2, by rw [HSUCC.out]; exact HS2.out, HF2.out⟩
        case measure => simp [intOf]; omega
      have e4 : ∀ c : Int, qk ≠ c → (qk == c) = false := fun c hc => by simpa using hc
      have f1 := e4 1 hk1
      have f2 := e4 2 hk2
      have f5 := e4 5 hk5
      have f6 := e4 6 hk6
      have f8 := e4 8 hk8
      have f10 := e4 10 hk10
      have f11 := e4 11 hk11
      rw [if_neg hk1, if_neg hk2, if_neg hk5, if_neg hk6, if_neg hk8, if_neg hk10, if_neg hk11] at HSUCC
      clear e4 hk1 hk2 hk5 hk6 hk8 hk10 hk11
      go_wp2_with fail
      go_roundw
      case rel => exact ⟨k + 1, by omega, by go_num, F, by rw [HSUCC.out]; exact HSZ.out, HFZ.out⟩
      case measure => simp [intOf]; omega
    · obtain rfl : n = k := by omega
      have hall : l.take n = l := List.take_of_length_le (by rw [HN.out]; exact Nat.le_refl _)
      rw [hall] at HSN
      clear hall hlt hk HS0 HF0
      go_wp2_with fail
      go_ret2
      exact ⟨g, F, rfl, HSN.out, HFR.out⟩
end Go.Proofs.YtdcppdgnekhcgaaGreatDoor
