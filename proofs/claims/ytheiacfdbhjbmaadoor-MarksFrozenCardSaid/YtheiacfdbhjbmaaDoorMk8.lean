/-
  Marks: a slide that is made: To, Total.
-/
import Derived.Test.YtheiacfdbhjbmaaDoorMk7
namespace Go.Proofs.YtheiacfdbhjbmaaDoor
open Go.RowKit Mk
set_option linter.unusedVariables false

/-- A slide; f: the marks of its piece. -/
structure SlideIs (w : World) (gs bs a b c m cap : Nat) (sv : Value) (f : Nat → Bool) : Prop where
  B : Bk w gs 60 (slideC a b c m cap (cnt f 0 (64 * m)) bs sv)
  V : Ws w bs m f
  S : w.ownsRow 0 3 1 sv m (sums f m)
  b1 : b ≤ 64 * m
  m1 : m ≤ 16384
  c1 : c ≤ 1048576

theorem SlideIs.fr {w w' : World} {gs bs a b c m cap : Nat} {sv : Value} {f : Nat → Bool} {S : List Nat} (h : SlideIs w gs bs a b c m cap sv f) (hf : Fr S w w') (h1 : gs ∉ S) (h2 : bs ∉ S) (h3 : ∀ k, sv.ownBlock = some k → k ∉ S) :
    SlideIs w' gs bs a b c m cap sv f :=
  ⟨h.B.fr hf h1, h.V.fr hf h2, own_fr h.S hf h3, h.b1, h.m1, h.c1⟩

def SlideOk (size : Nat) (f : Nat → Bool) (a b c : Nat) (w : World) (e : Ending) (w' : World) : Prop :=
  ∃ gs bs cap sv, e = .returned (.tuple #[.pointer (some ⟨gs, 0, none⟩), .int .i64 0]) ∧ SlideIs w' gs bs a b c (nums size) cap sv (cutF f a b) ∧ Fr [] w w' ∧ w.heap.size ≤ gs ∧ w.heap.size ≤ bs ∧ ∀ k, sv.ownBlock = some k → w.heap.size ≤ k

theorem slide_is (g gb size : Nat) (f : Nat → Bool) (a b c : Nat) (w : World) (h : MapIs w g gb size f) (hO : On w) (hab : a ≤ b) (hbs : b ≤ size) (hc : c ≤ 1048576) :
    Calls Tryd.prog 14 #[.pointer (some ⟨g, 0, none⟩), .int .i64 a, .int .i64 b, .int .i64 c] w (SlideOk size f a b c w) := by
  have hm := h.most
  refine (slide_ok g gb size f a b c w h hO hab hbs hc).mono ?_
  rintro e w' ⟨gs, bs, cap, rfl, ⟨sv, hB, hS⟩, ⟨cs, hcs, hsz⟩, hV, hF, h1, h2⟩
  refine ⟨gs, bs, cap, sv, rfl, ⟨hB, ⟨hcs.lt, fun i hi => ?_⟩, ?_, by unfold nums; omega, by unfold nums; omega, hc⟩, hF, h1, h2, fun k hk => (hS.lt k hk).1⟩
  · obtain ⟨x, hx, hw⟩ := hV i hi
    exact ⟨x, hx, hw.lt, fun j hj => by rw [hw.bit j hj]; unfold mix; rw [if_pos (by omega)]⟩
  · refine ⟨hS.1, ?_⟩
    rcases hS.2 with h0 | ⟨g', cap', cur, hv, hb', rest⟩
    · exact .inl h0
    · exact .inr ⟨g', cap', cur, hv, Nat.zero_le _, rest⟩

theorem total_any (gs bs a b c m cap : Nat) (sv : Value) (f : Nat → Bool) (w : World) (h : SlideIs w gs bs a b c m cap sv f) :
    Calls Tryd.prog 17 #[.pointer (some ⟨gs, 0, none⟩)] w fun e w' => e = .returned (.int .i64 (cnt f 0 (64 * m) : Nat)) ∧ w = w' := by
  have c5 : w.cell? ⟨gs, 5, none⟩ = some (.int .i64 (cnt f 0 (64 * m) : Nat)) := h.B.cell 5
  clear h
  go_enter Tryd.func17, Tryd.ntmps17
  go_wp2_with fail
  go_ret
  exact ⟨rfl, rfl⟩

def toB (f : Nat → Bool) (a b : Nat) (at_ : Int) : Bool := decide ((a : Int) ≤ at_) && decide (at_ < b) && f at_.toNat
def toI (f : Nat → Bool) (a b c : Nat) (at_ : Int) : Int := if toB f a b at_ then (c : Int) + (cnt f 0 at_.toNat : Nat) else 0

set_option maxHeartbeats 1600000 in
theorem to_any (gs bs a b c m cap : Nat) (sv : Value) (f : Nat → Bool) (at_ : Int) (w : World) (h : SlideIs w gs bs a b c m cap sv f) (hO : On w) :
    Calls Tryd.prog 16 #[.pointer (some ⟨gs, 0, none⟩), .int .i64 at_] w fun e w' => e = .returned (.tuple #[.int .i64 (toI f a b c at_), .bool (toB f a b at_)]) ∧ ∃ n, w' = w.drewN n := by
  have c0 : w.cell? ⟨gs, 0, none⟩ = some (.int .i64 a) := h.B.cell 0
  have c1 : w.cell? ⟨gs, 1, none⟩ = some (.int .i64 b) := h.B.cell 1
  have c2 : w.cell? ⟨gs, 2, none⟩ = some (.int .i64 c) := h.B.cell 2
  have c3 : w.cell? ⟨gs, 3, none⟩ = some (.slice (some ⟨bs, 0, none⟩) m cap) := h.B.cell 3
  have c4 : w.cell? ⟨gs, 4, none⟩ = some sv := h.B.cell 4
  have hb1 := h.b1
  have hm1 := h.m1
  have hc1 := h.c1
  by_cases h1 : at_ < a
  · have e : toB f a b at_ = false := by
      unfold toB
      rw [decide_eq_false (by omega)]
      rfl
    have E := Lib.hid e
    have d1 : decide (at_ < (a : Int)) = true := by simpa using h1
    clear h e
    go_enter Tryd.func16, Tryd.ntmps16
    go_wp2_with fail
    go_ret2
    refine ⟨?_, 0, rfl⟩
    unfold toI
    rw [E.out]
    rfl
  by_cases h2 : (b : Int) ≤ at_
  · have e : toB f a b at_ = false := by
      unfold toB
      rw [decide_eq_false (show ¬ at_ < (b : Int) by omega), Bool.and_false]
      rfl
    have E := Lib.hid e
    have d1 : decide (at_ < (a : Int)) = false := by simpa using h1
    have d2 : decide ((b : Int) ≤ at_) = true := by simpa using h2
    clear h e
    go_enter Tryd.func16, Tryd.ntmps16
    go_wp2_with fail
    go_ret2
    refine ⟨?_, 0, rfl⟩
    unfold toI
    rw [E.out]
    rfl
  obtain ⟨k, rfl⟩ := Int.eq_ofNat_of_zero_le (show 0 ≤ at_ by omega)
  have d1 : decide ((k : Int) < (a : Int)) = false := by simpa using h1
  have d2 : decide ((b : Int) ≤ (k : Int)) = false := by simpa using h2
  have d1n : decide (k < a) = false := by simp; omega
  have d2n : decide (b ≤ k) = false := by simp; omega
  have hk : k < 64 * m := by omega
  have e : toB f a b (k : Int) = f k := by
    unfold toB
    rw [decide_eq_true (show (a : Int) ≤ (k : Int) by omega), decide_eq_true (show (k : Int) < (b : Int) by omega)]
    simp
  have HHas : Hid (Calls Tryd.prog 36 #[.slice (some ⟨bs, 0, none⟩) m cap, .int .i64 k] w fun e w' => e = .returned (.bool (f k)) ∧ w = w') := has_any bs m cap k f w (by omega) hk h.V
  cases hfk : f k with
  | false =>
    rw [hfk] at e HHas
    have E := Lib.hid e
    clear h e hfk
    go_enter Tryd.func16, Tryd.ntmps16
    go_wp2_with fail
    refine (Calls.mono HHas.out ?_)
    rintro e w' ⟨rfl, rfl⟩
    go_wp2_with fail
    go_ret2
    refine ⟨?_, 0, rfl⟩
    unfold toI
    rw [E.out]
    rfl
  | true =>
    rw [hfk] at e HHas
    have E := Lib.hid e
    obtain ⟨i, hi⟩ : ∃ i, k / 64 = i := ⟨_, rfl⟩
    obtain ⟨s, hs⟩ : ∃ s, k % 64 = s := ⟨_, rfl⟩
    have him : i < m := by omega
    have hs64 : s < 64 := by omega
    have e1 : (k : Int) / 64 = (i : Int) := by omega
    have e2 : (k : Int) % 64 = (s : Int) := by omega
    have i1 : (0 : Int) ≤ (k : Int) := by omega
    have i2 : (i : Int) < (m : Int) := by omega
    have i3 : (0 : Int) ≤ (i : Int) := by omega
    have i4 : (s : Int) < 64 := by omega
    have t1 : (k : Int).tdiv 64 = (i : Int) := by rw [Int.tdiv_eq_ediv_of_nonneg i1]; exact e1
    have t2 : (k : Int).tmod 64 = (s : Int) := by rw [Int.tmod_eq_emod_of_nonneg i1]; exact e2
    have hkk : k = 64 * i + s := by omega
    obtain ⟨gg, cap2, hsv, _, hgl⟩ := h.S.form (by omega)
    have hsum : w.cell? ⟨gg, i, none⟩ = some (.int .i64 (cnt f 0 (64 * i) : Nat)) := by
      have := h.S.cells (g := gg) (by rw [hsv]; rfl) i (.int .i64 (cnt f 0 (64 * i) : Nat)) (by simp [sums, him])
      have e' : (⟨gg, 0, none⟩ : Addr).add i = ⟨gg, i, none⟩ := by cases i <;> simp [Addr.add]
      rwa [e'] at this
    subst hsv
    obtain ⟨x, hx, hw⟩ := h.V.wd i him
    have hxl := hw.lt
    have hpm := pop_mask hw (k := s) (by omega)
    obtain ⟨q, hq⟩ : ∃ q, 2 ^ s - 1 = q := ⟨_, rfl⟩
    have hql : q < 18446744073709551616 := by
      rw [← hq]
      have : 2 ^ s ≤ 2 ^ 64 := Nat.pow_le_pow_right (by omega) (by omega)
      omega
    obtain ⟨y, hy⟩ : ∃ y, x &&& q = y := ⟨_, rfl⟩
    have hyl : y < 18446744073709551616 := by
      rw [← hy]
      exact Nat.lt_of_le_of_lt Nat.and_le_left hxl
    have eand : bits .and .u64 (x : Int) (q : Int) = (y : Int) := by rw [u64_and_nat x q hxl hql, hy]
    rw [hq, hy] at hpm
    have hfin : cnt f 0 k = cnt f 0 (64 * i) + pop y := by rw [hkk, cnt_add, Nat.zero_add, hpm]
    have HFIN := Lib.hid hfin
    have HO := Lib.hid hO
    have HB : Hid (∀ n, Calls Tryd.prog 34 #[.int .i64 s] (w.drewN n) fun e w' => e = .returned (.int .u64 (q : Nat)) ∧ w.drewN n = w') := fun n => by
      have := below_any s (w.drewN n) (by omega)
      rw [hq] at this
      exact this
    have HC : Hid (∀ n, Calls Tryd.prog 35 #[.int .u64 y] (w.drewN n) fun e w' => e = .returned (.int .i64 (pop y)) ∧ w.drewN n = w') := fun n => count_any y _ hyl (HO.out.drewN n)
    have hpl := pop_le y
    have hcl := cnt_le f 0 (64 * i)
    generalize pop y = p at *
    generalize hcs : cnt f 0 (64 * i) = cs at *
    clear h e hfk hw hpm hq hy hfin hkk hi hs hO hcs
    have sw1 : IntKind.i64.wrap ((c : Int) + (cs : Int)) = (c : Int) + (cs : Int) := IntWalk.i64_in _ (by omega)
    have sw2 : IntKind.i64.wrap ((c : Int) + (cs : Int) + (p : Int)) = (c : Int) + (cs : Int) + (p : Int) := IntWalk.i64_in _ (by omega)
    go_enter Tryd.func16, Tryd.ntmps16
    go_wp2_with fail
    refine (Calls.mono HHas.out ?_)
    rintro e w' ⟨rfl, rfl⟩
    go_wp2_with fail
    go_quiet ((first | (go_at_call 34; exact qleft (HB.out _)) | (go_at_call 35; exact qleft (HC.out _))))
    clear sw1 sw2
    go_wp2_with fail
    go_ret2
    refine ⟨?_, _, rfl⟩
    unfold toI
    rw [E.out]
    have : ((cnt f 0 (k : Int).toNat : Nat) : Int) = (cs : Int) + (p : Int) := by
      rw [Int.toNat_natCast, HFIN.out]
      omega
    simp only [if_true]
    rw [this]
    simp [Int.add_assoc]
end Go.Proofs.YtheiacfdbhjbmaaDoor
