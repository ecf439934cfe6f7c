/-
  Marks: a map's Set and Clear.
-/
import Derived.Test.YtheiacfdbhjbmaaDoorMk4
namespace Go.Proofs.YtheiacfdbhjbmaaDoor
open Go.RowKit Mk
set_option linter.unusedVariables false

/-- f, and the places from a up to ahead of b. -/
def addF (f : Nat → Bool) (a b : Nat) : Nat → Bool := fun j => f j || (decide (a ≤ j) && decide (j < b))
theorem addF_self (f : Nat → Bool) (a : Nat) : addF f a a = f := by
  funext j
  unfold addF
  have : (decide (a ≤ j) && decide (j < a)) = false := by
    simp
  rw [this, Bool.or_false]
theorem addF_next (f : Nat → Bool) {a b : Nat} (h : a ≤ b) : upd (addF f a b) b = addF f a (b + 1) := by
  funext j
  unfold upd addF
  rw [Bool.or_assoc]
  congr 1
  rw [Bool.eq_iff_iff]
  simp
  omega

theorem map_put {z : World} {g gb size : Nat} {F : Nat → Bool} (h : MapIs z g gb size F) {i y k : Nat} (hk : k < size) (hik : k / 64 = i) (hy : Wd (upd F k) i y) :
    MapIs (z.setCell ⟨gb, i, none⟩ (.int .u64 (y : Nat))) g gb size (upd F k) := by
  obtain ⟨cs, hb, hc⟩ := h.W
  have hin : i < nums size := by unfold nums; omega
  refine ⟨h.B.far (p := ⟨gb, i, none⟩) h.ne _, ⟨_, hb.put i _, by simpa using hc⟩, ⟨by simpa [World.setCell] using h.V.lt, fun i' hi' => ?_⟩, fun j hj => ?_, h.most⟩
  · by_cases he : i' = i
    · subst he
      refine ⟨y, ?_, hy⟩
      rw [(hb.put i' _).cell i', Array.getElem?_setIfInBounds]
      simp [hc, hin]
    · obtain ⟨x, hx, hw⟩ := h.V.wd i' hi'
      refine ⟨x, ?_, wd_far hw (by omega)⟩
      rw [(hb.put i _).cell i', Array.getElem?_setIfInBounds, if_neg (fun e => he e.symm)]
      rw [hb.cell i'] at hx
      exact hx
  · unfold upd
    rw [h.none j hj]
    simp
    omega

theorem set_refused (g gb size : Nat) (f : Nat → Bool) (a n : Int) (w : World) (hn : n ≤ 9223372036854775807) (ha : a ≤ 9223372036854775807) (h : MapIs w g gb size f) (hbad : ¬ (0 ≤ a ∧ 0 ≤ n ∧ a ≤ size ∧ n ≤ size - a)) :
    Calls Tryd.prog 18 #[.pointer (some ⟨g, 0, none⟩), .int .i64 a, .int .i64 n] w fun e w' => e = .returned (.tuple #[.bool false, .int .i64 41]) ∧ w = w' := by
  have c0 : w.cell? ⟨g, 0, none⟩ = some (.int .i64 size) := h.B.cell 0
  have hm := h.most
  clear h
  go_enter Tryd.func18, Tryd.ntmps18
  by_cases h1 : a < 0
  · go_wp2_with fail
    go_ret2
    exact ⟨rfl, rfl⟩
  by_cases h2 : n < 0
  · have d1 : decide (a < 0) = false := by simpa using h1
    go_wp2_with fail
    go_ret2
    exact ⟨rfl, rfl⟩
  have d1 : decide (a < 0) = false := by simpa using h1
  have d2 : decide (n < 0) = false := by simpa using h2
  by_cases h3 : (size : Int) < a
  · go_wp2_with fail
    go_ret2
    exact ⟨rfl, rfl⟩
  have d3 : decide ((size : Int) < a) = false := by simpa using h3
  have i1 : 0 ≤ a := by omega
  have i2 : a ≤ size := by omega
  have i3 : 0 ≤ n := by omega
  have h4 : (size : Int) - a < n := by omega
  go_wp2_with fail
  go_ret2
  exact ⟨rfl, rfl⟩

/-- What Set leaves. -/
def SetOk (g gb size : Nat) (f : Nat → Bool) (a n : Nat) (w : World) (e : Ending) (w' : World) : Prop :=
  e = .returned (.tuple #[.bool (decide (cnt f a n = 0)), .int .i64 0]) ∧ MapIs w' g gb size (addF f a (a + n)) ∧ Fr [gb] w w'

set_option maxHeartbeats 1600000 in
theorem set_ok (g gb size : Nat) (f : Nat → Bool) (a n : Nat) (w : World) (h : MapIs w g gb size f) (hO : On w) (han : a + n ≤ size) :
    Calls Tryd.prog 18 #[.pointer (some ⟨g, 0, none⟩), .int .i64 a, .int .i64 n] w (SetOk g gb size f a n w) := by
  have c0 : w.cell? ⟨g, 0, none⟩ = some (.int .i64 size) := h.B.cell 0
  have hm := h.most
  have HM := Lib.hid h
  have HO := Lib.hid hO
  have hne := h.ne
  have HC : Hid (cntI f size a ((a : Int) + n) = cnt f a n) := by
    show cntI f size a ((a : Int) + n) = cnt f a n
    unfold cntI lowI highI
    rw [if_pos (by omega)]
    congr 1
    omega
  clear h hO
  have d1 : decide ((a : Int) < 0) = false := by simp
  have d2 : decide ((n : Int) < 0) = false := by simp
  have d3 : decide ((size : Int) < (a : Int)) = false := by simp; omega
  have d3n : decide (size < a) = false := by simp; omega
  have d4 : decide ((size : Int) - (a : Int) < (n : Int)) = false := by simp; omega
  go_enter Tryd.func18, Tryd.ntmps18
  go_wp2_with fail
  refine (countm_any g gb size f a ((a : Int) + n) w HM.out HO.out).mono ?_
  rintro e w1 ⟨rfl, q, hw1⟩
  rw [HC.out]
  have HM1 : Hid (MapIs w1 g gb size f) := by rw [hw1]; exact HM.out.fr ((Fr.refl [] w).drewN q) (by simp) (by simp)
  have HF1 : Hid (Fr [gb] w w1) := by rw [hw1]; exact (Fr.refl [gb] w).drewN q
  clear hw1 c0
  obtain ⟨fresh, hfr⟩ : ∃ b, decide (cnt f a n = 0) = b := ⟨_, rfl⟩
  have hfr2 : (((cnt f a n : Nat) : Int) == 0) = fresh := by
    rw [← hfr, Bool.eq_iff_iff]
    simp
  have HFR := Lib.hid hfr
  clear hfr
  go_upto_region 5 with fail
  clear hfr2
  go_loopw [9] (fun i wr => ∃ k : Nat, a ≤ k ∧ k ≤ a + n ∧ i = .int .i64 k ∧ Hid (MapIs wr g gb size (addF f a k) ∧ Fr [gb] w wr)) (fun i _ => a + n - (intOf i).toNat)
  case atStart => exact ⟨a, Nat.le_refl _, by omega, rfl, by rw [addF_self]; exact HM1.out, HF1.out⟩
  case round =>
    obtain ⟨k, hk1, hk2, rfl, hx⟩ := hrel
    have HX := Lib.hid hx.out.1
    have HF := Lib.hid hx.out.2
    clear hx
    by_cases hlt : k < a + n
    · obtain ⟨i, hi⟩ : ∃ i, k / 64 = i := ⟨_, rfl⟩
      obtain ⟨s, hs⟩ : ∃ s, k % 64 = s := ⟨_, rfl⟩
      have him : i < nums size := by unfold nums; omega
      have hnl : nums size ≤ 65536 := by unfold nums; omega
      have hs64 : s < 64 := by omega
      have e1 : (k : Int) / 64 = (i : Int) := by omega
      have e2 : (k : Int) % 64 = (s : Int) := by omega
      have i1 : (0 : Int) ≤ (k : Int) := by omega
      have i3 : (0 : Int) ≤ (i : Int) := by omega
      have i4 : (s : Int) < 64 := by omega
      have hlt' : (k : Int) < (a : Int) + (n : Int) := by omega
      have t1 : (k : Int).tdiv 64 = (i : Int) := by rw [Int.tdiv_eq_ediv_of_nonneg i1]; exact e1
      have t2 : (k : Int).tmod 64 = (s : Int) := by rw [Int.tmod_eq_emod_of_nonneg i1]; exact e2
      have t3 : IntKind.i64.wrap (i : Int) = (i : Int) := IntWalk.i64_in _ (by omega)
      have t4 : IntKind.i64.wrap (s : Int) = (s : Int) := IntWalk.i64_in _ (by omega)
      have hkk : k = 64 * i + s := by omega
      have HKK := Lib.hid hkk
      obtain ⟨x, hx, hwd⟩ := HX.out.V.wd i him
      have hxl := hwd.lt
      obtain ⟨q', hq⟩ : ∃ q', 2 ^ s = q' := ⟨_, rfl⟩
      have hql : q' < 18446744073709551616 := by
        rw [← hq]
        show 2 ^ s < 2 ^ 64
        exact Nat.pow_lt_pow_right (by decide) hs64
      have e3 : IntKind.u64.wrap ((2 : Int) ^ s) = (q' : Int) := by
        have : (2 : Int) ^ s = ((2 ^ s : Nat) : Int) := by simp
        rw [this, hq, IntKind.wrap_u64]
        omega
      obtain ⟨y, hy⟩ : ∃ y, x ||| q' = y := ⟨_, rfl⟩
      have e4 : bits .or .u64 (x : Int) (q' : Int) = (y : Int) := by rw [u64_or_nat x q' hxl hql, hy]
      have hwd2 : Wd (upd (addF f a k) k) i y := by
        have := wd_set hwd hs64
        rw [hq, hy] at this
        rw [hkk]
        rw [hkk] at this
        exact this
      have HWD := Lib.hid hwd2
      clear hi hs hkk hwd hq hy hwd2
      obtain ⟨z, hz⟩ : ∃ z, z = wr.drew := ⟨_, rfl⟩
      have HXZ : Hid (MapIs z g gb size (addF f a k)) := by subst hz; exact HX.out.fr ((Fr.refl [] wr).drew) (by simp) (by simp)
      have HFZ : Hid (Fr [gb] w z) := by subst hz; exact HF.out.drew
      have hxz : z.cell? ⟨gb, i, none⟩ = some (.int .u64 x) := by subst hz; exact hx
      have HZ := Lib.hid hz
      clear hz hx
      have c1 : z.cell? ⟨g, 1, none⟩ = some (.slice (some ⟨gb, 0, none⟩) (nums size) (nums size)) := HXZ.out.B.cell 1
      obtain ⟨cs, hcs, hcz⟩ := HXZ.out.W
      have hfz := hcs.free i
      have HCS := Lib.hid hcs
      have HCZ := Lib.hid hcz
      clear hcs hcz
      generalize hmm : nums size = m at *
      have him2 : (i : Int) < (m : Int) := by omega
      have HMM := Lib.hid hmm
      clear hmm
      go_upto_region 7 with fail
      refine wp_region_still_tail 13 (by kernel_rfl) (by kernel_rfl) ?_
      change wpStill _ _ wr.drew _ _ _
      rw [← HZ.out]
      simp only [List.take_succ_cons, List.take_zero, List.drop_succ_cons, List.drop_zero]
      repeat still_step
      refine wpStill_nil ?_
      change wpList _ _ _ _ _ wr.drew
      rw [← HZ.out]
      clear t1 t2 t3 t4 e1 e2 e3 e4
      go_wp2_with fail
      go_roundw
      case rel =>
        refine ⟨k + 1, by omega, by omega, by go_num, ?_⟩
        rw [← addF_next f hk1]
        exact ⟨map_put HXZ.out (by omega) (by have := HKK.out; omega) HWD.out, HFZ.out.setCell (by simp) _⟩
      case measure => simp [intOf]; omega
    · obtain rfl : k = a + n := by omega
      go_wp2_with fail
      go_ret2
      refine ⟨?_, HX.out, HF.out⟩
      rw [HFR.out]
      rfl

theorem fr_setCells (g : Nat) : ∀ (vs : List Value) (o : Nat) (w : World), Fr [g] w (w.setCells g o vs)
  | [], _, w => Fr.refl _ w
  | v :: r, o, w => ((Fr.refl [g] w).setCell (p := ⟨g, o, none⟩) (by simp) v).trans (fr_setCells g r (o + 1) _) (fun x hx => .inl hx)
theorem bk_setCells (g : Nat) (t : TypeId) (z : Value) : ∀ (n o : Nat) (w : World) (cs : Array Value), Bk w g t cs → o + n ≤ cs.size →
    ∃ cs', Bk (w.setCells g o (List.replicate n z)) g t cs' ∧ cs'.size = cs.size ∧ (∀ j, o ≤ j → j < o + n → cs'[j]? = some z) ∧ (∀ j, j < o → cs'[j]? = cs[j]?)
  | 0, o, w, cs, h, _ => ⟨cs, h, rfl, fun j h1 h2 => by omega, fun _ _ => rfl⟩
  | n + 1, o, w, cs, h, hl => by
    obtain ⟨cs', h1, h2, h3, h4⟩ := bk_setCells g t z n (o + 1) (w.setCell ⟨g, o, none⟩ z) (cs.setIfInBounds o z) (h.put o z) (by simp; omega)
    refine ⟨cs', h1, by simpa using h2, fun j hj1 hj2 => ?_, fun j hj => ?_⟩
    · by_cases he : j = o
      · subst he
        rw [h4 j (by omega), Array.getElem?_setIfInBounds]
        simp
        omega
      · exact h3 j (by omega) (by omega)
    · rw [h4 j (by omega), Array.getElem?_setIfInBounds, if_neg (by omega)]

theorem clear_zero (g gb : Nat) (f : Nat → Bool) (w : World) (h : MapIs w g gb 0 f) :
    Calls Tryd.prog 19 #[.pointer (some ⟨g, 0, none⟩)] w fun e w' => e = .returned (.tuple #[]) ∧ MapIs w' g gb 0 (fun _ => false) ∧ Fr [gb] w w' := by
  have c1 : w.cell? ⟨g, 1, none⟩ = some (.slice (some ⟨gb, 0, none⟩) 0 0) := h.B.cell 1
  have hf : f = fun _ => false := by funext j; exact h.none j (Nat.zero_le _)
  subst hf
  have HM := Lib.hid h
  have hr : ∀ ty, (Builtin.clear_ #[54] ty #[.slice (some ⟨gb, 0, none⟩) 0 0]).run Tryd.prog w = .ok (.tuple #[]) w := fun ty => by
    simp [Builtin.clear_, run_underlying Tryd.underlying54]
  clear h
  go_enter Tryd.func19, Tryd.ntmps19
  go_wp2_with fail
  go_returns
  exact ⟨rfl, HM.out, Fr.refl _ _⟩

theorem clear_any (g gb size : Nat) (f : Nat → Bool) (w : World) (h : MapIs w g gb size f) :
    Calls Tryd.prog 19 #[.pointer (some ⟨g, 0, none⟩)] w fun e w' => e = .returned (.tuple #[]) ∧ MapIs w' g gb size (fun _ => false) ∧ Fr [gb] w w' := by
  rcases Nat.eq_zero_or_pos size with rfl | h0
  · exact clear_zero g gb f w h
  have c1 : w.cell? ⟨g, 1, none⟩ = some (.slice (some ⟨gb, 0, none⟩) (nums size) (nums size)) := h.B.cell 1
  obtain ⟨cs, hcs, hcz⟩ := h.W
  have hn : 0 < nums size := by unfold nums; omega
  have hr := fun ty => Lib.run_clear_slice (P := Tryd.prog) w 54 58 ty (.int .u64 0) Tryd.underlying54 (fun w => by kernel_rfl) rfl (by simp [Value.oneCell']) gb 0 (nums size) (nums size) hn
    (fun j hj => by rw [Nat.zero_add, hcs.cell j]; simp [hcz, hj]) (fun j hj => hcs.free _)
  have HM := Lib.hid h
  have HC := Lib.hid (And.intro hcs hcz)
  clear h hcs hcz
  go_enter Tryd.func19, Tryd.ntmps19
  go_wp2_with fail
  go_returns
  have hfr := fr_setCells gb (List.replicate (nums size) (.int .u64 0)) 0 w
  obtain ⟨cs', h1, h2, h3, _⟩ := bk_setCells gb 58 (.int .u64 0) (nums size) 0 w cs HC.out.1 (by rw [HC.out.2]; omega)
  refine ⟨rfl, ⟨HM.out.B.fr hfr (by simp; exact HM.out.ne), ⟨cs', h1, by rw [h2, HC.out.2]⟩, ⟨h1.lt, fun i hi => ⟨0, ?_, wd_none i⟩⟩, fun _ _ => rfl, HM.out.most⟩, hfr⟩
  rw [h1.cell i, h3 i (Nat.zero_le _) (by omega)]
  rfl
end Go.Proofs.YtheiacfdbhjbmaaDoor
