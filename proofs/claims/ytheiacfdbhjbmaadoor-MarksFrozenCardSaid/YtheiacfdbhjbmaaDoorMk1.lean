/-
  Marks: the table of ones, counting a number's bits, masks, one bit.
-/
import Derived.Test.YtheiacfdbhjbmaaDoorRows
import Derived.Test.YtheiacfdbhjbmaaDoorMkPlain
import Derived.Test.YtheiacfdbhjbmaaDoorLst
import Derived.Laws.Shifts
import Derived.Laws.BitsAllLaws
import Derived.Deep.DeepCutAuto
import Derived.Deep.QuietTactic
import Derived.BigQuiet
import Derived.IntWalk
namespace Go.Proofs.YtheiacfdbhjbmaaDoor
open Go.RowKit Mk
set_option linter.unusedVariables false

/-- The table lies where it was laid. -/
structure On (w : World) : Prop where
  lt : 0 < w.heap.size
  at_ : ∀ k, k < 16 → w.cell? ⟨0, k, none⟩ = some (.int .i64 ((onesL.getD k 0 : Nat) : Int))
theorem On.fr {w w' : World} {S : List Nat} (h : On w) (hf : Fr S w w') (h0 : 0 ∉ S) : On w' :=
  ⟨Nat.lt_of_lt_of_le h.lt hf.size, fun k hk => (World.cell?_of_block (hf.block 0 h.lt h0)).trans (h.at_ k hk)⟩

theorem and15 {y : Nat} (hy : y < 18446744073709551616) : bits .and .u64 (y : Int) 15 = ((y % 16 : Nat) : Int) := by
  have h := u64_and_nat y 15 hy (by omega)
  rw [show (15 : Nat) = 2 ^ 4 - 1 from rfl, Nat.and_two_pow_sub_one_eq_mod] at h
  exact h
theorem and1 {y : Nat} (hy : y < 18446744073709551616) : bits .and .u64 (y : Int) 1 = ((y % 2 : Nat) : Int) := by
  have h := u64_and_nat y 1 hy (by omega)
  rw [show (1 : Nat) = 2 ^ 1 - 1 from rfl, Nat.and_two_pow_sub_one_eq_mod] at h
  exact h

set_option maxHeartbeats 800000 in
theorem count_any (x : Nat) (w : World) (hx : x < 18446744073709551616) (hO : On w) :
    Calls Tryd.prog 35 #[.int .u64 x] w fun e w' => e = .returned (.int .i64 (pop x)) ∧ w = w' := by
  have HO := Lib.hid hO
  clear hO
  go_enter Tryd.func35, Tryd.ntmps35
  go_wp2_with fail
  go_loop [0, 3] (fun b n => ∃ y k : Nat, b = .int .u64 y ∧ n = .int .i64 k ∧ y < 18446744073709551616 ∧ k + pop y = pop x) (fun b _ => (intOf b).toNat)
  case atStart => exact ⟨x, 0, rfl, rfl, hx, by omega⟩
  case round =>
    obtain ⟨y, k, rfl, rfl, hy, hs⟩ := hrel
    have hk : k ≤ 64 := by have := pop_le x; omega
    have HS := Lib.hid hs
    clear hs
    by_cases h0 : y = 0
    · subst h0
      go_wp2_with fail
      go_ret
      have := HS.out
      rw [pop_zero] at this
      exact ⟨by rw [← this]; rfl, rfl⟩
    · have hb : ((y : Int) != 0) = true := by simpa using h0
      obtain ⟨m, hm⟩ : ∃ m, y % 16 = m := ⟨_, rfl⟩
      have hm16 : m < 16 := by omega
      have hc := HO.out.at_ m hm16
      obtain ⟨o, ho⟩ : ∃ o, onesL.getD m 0 = o := ⟨_, rfl⟩
      rw [ho] at hc
      have ho4 : o ≤ 4 := by
        rw [← ho]
        have : ∀ m, m < 16 → onesL.getD m 0 ≤ 4 := by decide
        exact this m hm16
      have hst := pop_step hy
      rw [hm, ho] at hst
      have HST := Lib.hid hst
      have e1 : bits .and .u64 (y : Int) 15 = (m : Int) := by rw [and15 hy, hm]
      have i1 : (0 : Int) ≤ (m : Int) := by omega
      have i2 : (m : Int) < 16 := by omega
      have HM := Lib.hid hm
      have hy0 : 0 < y := by omega
      clear hm ho hst h0
      go_wp2_with fail
      go_round
      case rel =>
        refine ⟨y / 16, k + o, by simp, by simp, by omega, ?_⟩
        have := HS.out
        have := HST.out
        omega
      case measure => simp [intOf]; omega

theorem shl_one (n : Nat) (hn : n ≤ 64) : IntKind.u64.wrap (IntKind.u64.wrap (2 ^ n) - 1) = ((2 ^ n - 1 : Nat) : Int) := by
  have h : ∀ n, n < 65 → IntKind.u64.wrap (IntKind.u64.wrap (2 ^ n) - 1) = ((2 ^ n - 1 : Nat) : Int) := by decide +kernel
  exact h n (by omega)

theorem below_any (n : Nat) (w : World) (hn : n ≤ 64) :
    Calls Tryd.prog 34 #[.int .i64 n] w fun e w' => e = .returned (.int .u64 ((2 ^ n - 1 : Nat) : Int)) ∧ w = w' := by
  go_enter Tryd.func34, Tryd.ntmps34
  go_wp2_with fail
  go_ret
  exact ⟨by simp [shl_one n hn], rfl⟩

/-- In this block lie the numbers of f, m of them. -/
structure Ws (w : World) (b m : Nat) (f : Nat → Bool) : Prop where
  lt : b < w.heap.size
  wd : ∀ i, i < m → ∃ x, w.cell? ⟨b, i, none⟩ = some (.int .u64 (x : Nat)) ∧ Wd f i x
theorem Ws.fr {w w' : World} {S : List Nat} {b m : Nat} {f : Nat → Bool} (h : Ws w b m f) (hf : Fr S w w') (h0 : b ∉ S) : Ws w' b m f :=
  ⟨Nat.lt_of_lt_of_le h.lt hf.size, fun i hi => by
    obtain ⟨x, hx, hw⟩ := h.wd i hi
    exact ⟨x, (World.cell?_of_block (hf.block b h.lt h0)).trans hx, hw⟩⟩

theorem has_any (b m cap at_ : Nat) (f : Nat → Bool) (w : World) (hm : m ≤ 65536) (hat : at_ < 64 * m) (h : Ws w b m f) :
    Calls Tryd.prog 36 #[.slice (some ⟨b, 0, none⟩) m cap, .int .i64 at_] w fun e w' => e = .returned (.bool (f at_)) ∧ w = w' := by
  obtain ⟨i, hi⟩ : ∃ i, at_ / 64 = i := ⟨_, rfl⟩
  obtain ⟨s, hs⟩ : ∃ s, at_ % 64 = s := ⟨_, rfl⟩
  have him : i < m := by omega
  have hs64 : s < 64 := by omega
  obtain ⟨x, hc, hw⟩ := h.wd i him
  have hx := hw.lt
  have hbit := bit_at hw hs64
  rw [show 64 * i + s = at_ from by omega] at hbit
  have e1 : (at_ : Int) / 64 = (i : Int) := by omega
  have e2 : (at_ : Int) % 64 = (s : Int) := by omega
  have i1 : (0 : Int) ≤ (at_ : Int) := by omega
  have i2 : (i : Int) < (m : Int) := by omega
  have i3 : (0 : Int) ≤ (i : Int) := by omega
  have i4 : (s : Int) < 64 := by omega
  have HBit := Lib.hid hbit
  clear h hi hs hw hbit
  go_enter Tryd.func36, Tryd.ntmps36
  go_wp2_with fail
  go_ret
  refine ⟨?_, rfl⟩
  have h := HBit.out
  have hd : (x : Int) / 2 ^ s = ((x / 2 ^ s : Nat) : Int) := by simp
  have hlt : x / 2 ^ s < 18446744073709551616 := Nat.lt_of_le_of_lt (Nat.div_le_self _ _) hx
  show Ending.returned (Value.bool (bits BinOp.and IntKind.u64 (↑x / 2 ^ s) 1 == 1)) = _
  rw [hd, and1 hlt, h]
  cases f at_ <;> rfl
end Go.Proofs.YtheiacfdbhjbmaaDoor
