/-
  Marks: a map's Count, Next, Set, Clear.
-/
import Derived.Test.YtheiacfdbhjbmaaDoorMk3
import Derived.StillTailTactics
import Derived.Lib.SliceRun
namespace Go.Proofs.YtheiacfdbhjbmaaDoor
open Go.RowKit Mk
set_option linter.unusedVariables false

theorem quiet_add {P : Program} {f : FuncId} {args : Array Value} {w : World} {a n : Nat} {v : Value}
    (h : Calls P f args (w.drewN (a + n)) fun e w' => e = .returned v ∧ ∃ m, w' = (w.drewN (a + n)).drewN m) :
    Calls P f args (w.drewN (a + n)) fun e w'' => e = .returned v ∧ ∃ m, w'' = w.drewN (a + m) :=
  h.mono fun _ _ ⟨he, m, hm⟩ => ⟨he, n + m, by rw [hm, World.drewN_drewN, Nat.add_assoc]⟩
theorem quiet_zero {P : Program} {f : FuncId} {args : Array Value} {w : World} {n : Nat} {v : Value}
    (h : Calls P f args (w.drewN n) fun e w' => e = .returned v ∧ ∃ m, w' = (w.drewN n).drewN m) :
    Calls P f args (w.drewN n) fun e w'' => e = .returned v ∧ ∃ m, w'' = w.drewN m :=
  h.mono fun _ _ ⟨he, m, hm⟩ => ⟨he, n + m, by rw [hm, World.drewN_drewN]⟩

theorem ret_int' {k : IntKind} {a b : Int} (h : a = b) : Ending.returned (.int k a) = .returned (.int k b) := by rw [h]
def lowI (a : Int) : Nat := a.toNat
def highI (b : Int) (size : Nat) : Nat := if b ≤ size then b.toNat else size
/-- What Count tells. -/
def cntI (f : Nat → Bool) (size : Nat) (a b : Int) : Nat := cnt f (lowI a) (highI b size - lowI a)

theorem cnt_sub {f : Nat → Bool} {a b : Nat} (h : a ≤ b) : cnt f a (b - a) = cnt f 0 b - cnt f 0 a := by
  have := cnt_add f 0 a (b - a)
  rw [show a + (b - a) = b from by omega, Nat.zero_add] at this
  omega

set_option maxHeartbeats 400000 in
theorem countm_in (g gb size : Nat) (f : Nat → Bool) (from_ behind : Int) (a b : Nat) (w : World) (h : MapIs w g gb size f) (hO : On w)
    (ha : (if from_ < 0 then 0 else from_) = (a : Int)) (hb : (if (size : Int) < behind then (size : Int) else behind) = (b : Int)) (hab : a < b) (hbs : b ≤ size) :
    Calls Tryd.prog 20 #[.pointer (some ⟨g, 0, none⟩), .int .i64 from_, .int .i64 behind] w fun e w' => e = .returned (.int .i64 (cnt f a (b - a))) ∧ ∃ n, w' = w.drewN n := by
  have c0 : w.cell? ⟨g, 0, none⟩ = some (.int .i64 size) := h.B.cell 0
  have c1 : w.cell? ⟨g, 1, none⟩ = some (.slice (some ⟨gb, 0, none⟩) (nums size) (nums size)) := h.B.cell 1
  have hm := h.most
  have hml : nums size ≤ 65536 := by unfold nums; omega
  have hbm : b ≤ 64 * nums size := by unfold nums; omega
  have HV := Lib.hid h.V
  have HO := Lib.hid hO
  generalize nums size = m at *
  have HA : Hid (∀ (q n : Nat), q ≤ b → Calls Tryd.prog 37 #[.slice (some ⟨gb, 0, none⟩) m m, .int .i64 q] (w.drewN n) fun e w' => e = .returned (.int .i64 (cnt f 0 q)) ∧ ∃ k, w' = (w.drewN n).drewN k) := fun q n hq =>
    ahead_any gb m m q f _ hml (Nat.le_refl _) (by omega) (by omega) (HV.out.drewN n) (HO.out.drewN n)
  have hs := cnt_sub (f := f) (show a ≤ b by omega)
  have hl1 := cnt_le f 0 a
  have hl2 := cnt_le f 0 b
  have hle : cnt f 0 a ≤ cnt f 0 b := by
    have := cnt_add f 0 a (b - a)
    rw [show a + (b - a) = b from by omega] at this
    omega
  have HS := Lib.hid hs
  clear h hO hs
  go_enter Tryd.func20, Tryd.ntmps20
  go_upto_region 1 with fail
  go_quiet (fail)
  have hlt : decide ((b : Int) ≤ (a : Int)) = false := by simp; omega
  go_upto_region 4 with fail
  have sw : IntKind.i64.wrap ((cnt f 0 b : Nat) - ((cnt f 0 a : Nat) : Int)) = (cnt f 0 b : Nat) - ((cnt f 0 a : Nat) : Int) := IntWalk.i64_in _ (by omega)
  go_quiet ((go_at_call 37; (first | (with_reducible exact quiet_add (HA.out _ _ (by omega))) | (with_reducible exact quiet_zero (HA.out _ _ (by omega))))))
  clear sw
  go_wp2_with fail
  go_ret
  exact ⟨ret_int' (by rw [HS.out]; omega), _, World.drewN_drewN _ _ _⟩

set_option maxHeartbeats 400000 in
theorem countm_out (g gb size : Nat) (f : Nat → Bool) (from_ behind a b : Int) (w : World) (h : MapIs w g gb size f)
    (ha : (if from_ < 0 then 0 else from_) = a) (hb : (if (size : Int) < behind then (size : Int) else behind) = b) (hab : b ≤ a) :
    Calls Tryd.prog 20 #[.pointer (some ⟨g, 0, none⟩), .int .i64 from_, .int .i64 behind] w fun e w' => e = .returned (.int .i64 0) ∧ ∃ n, w' = w.drewN n := by
  have c0 : w.cell? ⟨g, 0, none⟩ = some (.int .i64 size) := h.B.cell 0
  clear h
  go_enter Tryd.func20, Tryd.ntmps20
  go_upto_region 1 with fail
  go_quiet (fail)
  have hlt : decide (b ≤ a) = true := by simp; omega
  go_wp2_with fail
  go_ret
  exact ⟨rfl, _, rfl⟩

theorem countm_any (g gb size : Nat) (f : Nat → Bool) (from_ behind : Int) (w : World) (h : MapIs w g gb size f) (hO : On w) :
    Calls Tryd.prog 20 #[.pointer (some ⟨g, 0, none⟩), .int .i64 from_, .int .i64 behind] w fun e w' => e = .returned (.int .i64 (cntI f size from_ behind)) ∧ ∃ n, w' = w.drewN n := by
  by_cases hlt : lowI from_ < highI behind size
  · refine countm_in g gb size f from_ behind (lowI from_) (highI behind size) w h hO ?_ ?_ hlt ?_
    · unfold lowI; split <;> omega
    · unfold lowI highI at hlt
      unfold highI
      split at hlt <;> split <;> omega
    · unfold highI; split <;> omega
  · have e : cntI f size from_ behind = 0 := by
      unfold cntI
      rw [show highI behind size - lowI from_ = 0 from by omega]
      rfl
    rw [e]
    refine countm_out g gb size f from_ behind _ _ w h rfl rfl ?_
    unfold lowI highI at hlt
    split at hlt <;> split <;> split <;> omega

/-! ### Next -/
def nxtF (f : Nat → Bool) (size : Nat) : Nat → Nat → Nat
  | 0, _ => size
  | k + 1, a => if f a then a else nxtF f size k (a + 1)
def nxt (f : Nat → Bool) (a size : Nat) : Nat := nxtF f size (size - a) a
theorem nxtF_is (f : Nat → Bool) (size : Nat) : ∀ k a, a + k = size → Nxt f a size (nxtF f size k a)
  | 0, a, h => ⟨.inl rfl, fun j h1 h2 => by unfold nxtF at h2; omega⟩
  | k + 1, a, h => by
    unfold nxtF
    split
    · rename_i hf
      exact ⟨.inr ⟨Nat.le_refl _, by omega, hf⟩, fun j h1 h2 => by omega⟩
    · rename_i hf
      have ih := nxtF_is f size k (a + 1) (by omega)
      refine ⟨?_, fun j h1 h2 => ?_⟩
      · rcases ih.is with h | ⟨h1, h2, h3⟩
        · exact .inl h
        · exact .inr ⟨by omega, h2, h3⟩
      · by_cases hj : j = a
        · subst hj; simpa using hf
        · exact ih.none j (by omega) h2
theorem Nxt.unique {f : Nat → Bool} {a size r r' : Nat} (h : Nxt f a size r) (h' : Nxt f a size r') : r = r' := by
  rcases h.is with h1 | ⟨h1, h2, h3⟩ <;> rcases h'.is with h4 | ⟨h4, h5, h6⟩
  · rw [h1, h4]
  · subst h1
    have := h.none r' h4 h5
    rw [this] at h6; cases h6
  · subst h4
    have := h'.none r h1 h2
    rw [this] at h3; cases h3
  · rcases Nat.lt_trichotomy r r' with h | h | h
    · have := h'.none r h1 h; rw [this] at h3; cases h3
    · exact h
    · have := Nxt.none ‹Nxt f a size r› r' h4 h; rw [this] at h6; cases h6
theorem nxt_of {f : Nat → Bool} {a size r : Nat} (h : Nxt f a size r) : r = nxt f a size := by
  by_cases ha : a ≤ size
  · exact h.unique (nxtF_is f size (size - a) a (by omega))
  · have : r = size := by
      rcases h.is with h1 | ⟨h1, h2, _⟩
      · exact h1
      · omega
    rw [this]
    unfold nxt
    rw [show size - a = 0 from by omega]
    rfl

def nxtI (f : Nat → Bool) (size : Nat) (a : Int) : Int := if nxt f a.toNat size < size then (nxt f a.toNat size : Int) else -1
set_option maxHeartbeats 400000 in
theorem nextm_any (g gb size : Nat) (f : Nat → Bool) (a : Int) (w : World) (ha : a ≤ 9223372036854775807) (h : MapIs w g gb size f) :
    Calls Tryd.prog 23 #[.pointer (some ⟨g, 0, none⟩), .int .i64 a] w fun e w' => e = .returned (.int .i64 (nxtI f size a)) ∧ ∃ n, w' = w.drewN n := by
  have c0 : w.cell? ⟨g, 0, none⟩ = some (.int .i64 size) := h.B.cell 0
  have c1 : w.cell? ⟨g, 1, none⟩ = some (.slice (some ⟨gb, 0, none⟩) (nums size) (nums size)) := h.B.cell 1
  have hm := h.most
  have hml : nums size ≤ 65536 := by unfold nums; omega
  have hsz : size ≤ 64 * nums size := by unfold nums; omega
  have hV := h.V
  have hN := h.none
  generalize nums size = m at *
  obtain ⟨k, hk⟩ : ∃ k : Nat, a.toNat = k := ⟨_, rfl⟩
  have ha' : (if a < 0 then 0 else a) = (k : Int) := by split <;> omega
  have hk63 : k ≤ 9223372036854775807 := by omega
  obtain ⟨r, hr⟩ : ∃ r, nxt f k size = r := ⟨_, rfl⟩
  have HA : Hid (∀ n, Calls Tryd.prog 40 #[.slice (some ⟨gb, 0, none⟩) m m, .int .i64 k, .int .i64 size] (w.drewN n) fun e w' => e = .returned (.int .i64 (r : Nat)) ∧ w.drewN n = w') := fun n =>
    (next_any gb m m k size f _ hml hsz hk63 hN (hV.drewN n)).mono fun e w' ⟨⟨r', he, hx⟩, hw⟩ => ⟨by rw [he, nxt_of hx, hr], hw⟩
  have hrs : r ≤ size := by
    have : ∀ r', Nxt f k size r' → r' ≤ size := fun r' hx => by
      rcases hx.is with h1 | ⟨_, h2, _⟩ <;> omega
    by_cases hks : k ≤ size
    · rw [← hr]; exact this _ (nxtF_is f size (size - k) k (by omega))
    · rw [← hr]; unfold nxt; rw [show size - k = 0 from by omega]; exact Nat.le_refl _
  have HE : Hid (nxtI f size a = if r < size then (r : Int) else -1) := by
    show nxtI f size a = _
    unfold nxtI
    rw [hk, hr]
  clear h hV hN hk hr
  go_enter Tryd.func23, Tryd.ntmps23
  go_upto_region 1 with fail
  go_quiet ((go_at_call 40; (first | exact qleft (HA.out _) | exact qadd (HA.out _))))
  by_cases hrl : r < size
  · have hrl' : (r : Int) < (size : Int) := by omega
    go_wp2_with fail
    go_ret
    exact ⟨by rw [HE.out, if_pos hrl]; rfl, _, rfl⟩
  · have hrl' : ¬ (r : Int) < (size : Int) := by omega
    go_wp2_with fail
    go_ret
    exact ⟨by rw [HE.out, if_neg hrl]; rfl, _, rfl⟩
end Go.Proofs.YtheiacfdbhjbmaaDoor
