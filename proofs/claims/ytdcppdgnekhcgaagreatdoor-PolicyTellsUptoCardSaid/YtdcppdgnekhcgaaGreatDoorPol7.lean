/-
  known, and the first statement's walk.
-/
import Derived.Test.YtdcppdgnekhcgaaGreatDoorPol6
namespace Go.Proofs.YtdcppdgnekhcgaaGreatDoor
open Go.RowKit Pol
set_option maxRecDepth 100000

def smallC (i : Nat) : Int :=
  if i = 0 then 64 else if i = 1 then 64 else if i = 2 then 100 else if i = 3 then 40 else if i = 4 then 30 else if i = 5 then 2 else if i = 6 then 1 else if i = 7 then 50 else if i = 8 then 3 else
  if i = 9 then 1 else if i = 10 then 16 else if i = 11 then 4 else if i = 12 then 0 else 1

theorem small_cfg (w : World) : Calls Tryz.prog 21 #[] w fun e w' => e = .returned (.agg (cfgA smallC)) ∧ Fr [] w w' := by
  go_enter Tryz.func21, Tryz.ntmps21
  go_wp2
  go_returns
  exact ⟨rfl, (Fr.refl _ _).alloc _⟩

theorem small_valid : validB smallC = true := by decide
theorem small_limit : limitOf smallC 20 = 40 := by decide
theorem small_ph : phOf smallC 1 10 = .small := by decide
def st1 : St := after 10 40 (st0 .small) (clipV (⟨5, 59, 35, 65⟩ : Vw))
theorem step1 : (stepOf 10 40 (st0 .small) (clipV (⟨5, 59, 35, 65⟩ : Vw))).1 = 3 := by decide
def st2 : St := after 10 40 st1 (clipV (⟨64, 20, 45, 55⟩ : Vw))
theorem step2 : (stepOf 10 40 st1 (clipV (⟨64, 20, 45, 55⟩ : Vw))).1 = 1 := by decide
def st3 : St := after 10 40 st2 (clipV (⟨54, 30, 45, 55⟩ : Vw))
theorem step3 : (stepOf 10 40 st2 (clipV (⟨54, 30, 45, 55⟩ : Vw))).1 = 5 := by decide
def st4 : St := after 10 40 st3 (clipV (⟨60, 24, 33, 67⟩ : Vw))
theorem step4 : (stepOf 10 40 st3 (clipV (⟨60, 24, 33, 67⟩ : Vw))).1 = 7 := by decide

set_option maxRecDepth 100000 in
theorem known_any (w : World) : Calls Tryz.prog 5 #[] w fun e w' => e = .returned (.bool true) ∧ Fr [] w w' := by
  go_enter Tryz.func5, Tryz.ntmps5
  go_wp2_with fail
  refine (small_cfg _).mono ?_
  rintro e w1 ⟨rfl, hf⟩
  have HF1 := Lib.hid hf
  clear hf
  go_wp2_with fail
  refine (begin_k1 smallC 20 10 _ small_valid (by omega) (by omega) (by omega)).mono ?_
  rintro e w2 ⟨g, rfl, hg, hP, hf⟩
  rw [small_limit, small_ph] at hP
  have HG : Hid (w.heap.size ≤ g) := Nat.le_trans HF1.out.size hg
  have HF2 := Lib.hid (HF1.out.trans hf (by simp))
  have HP0 := Lib.hid hP
  clear hf hP hg
  go_wp2_with fail
  refine (next_any g smallC 20 40 10 (st0 .small) _ _ (⟨5, 59, 35, 65⟩ : Vw) _ HP0.out).mono ?_
  rintro e w3 ⟨cyc1, rfl, hP, hc, hf⟩
  rw [step1]
  have HP1 : Hid (PT w3 g smallC 20 40 10 st1 _ cyc1) := hP
  have HC1 : Hid (∀ k, cyc1.ownBlock = some k → w.heap.size ≤ k) := by
    intro k hk
    rcases hc with h | ⟨b, h, hb⟩
    · rw [h] at hk; simp [Value.ownBlock] at hk
    · rw [h] at hk
      have := HF2.out.size
      have e : b = k := by simpa using hk
      omega
  have HF3 : Hid (Fr [] w w3) := HF2.out.trans hf (by
    intro x hx
    right
    simp at hx
    rcases hx with h | h
    · have := HG.out; omega
    · simp [Value.ownBlock] at h)
  clear hP hc hf
  go_wp2_with fail
  refine (next_any g smallC 20 40 10 st1 _ _ (⟨64, 20, 45, 55⟩ : Vw) _ HP1.out).mono ?_
  rintro e w4 ⟨cyc2, rfl, hP, hc, hf⟩
  rw [step2]
  have HP2 : Hid (PT w4 g smallC 20 40 10 st2 _ cyc2) := hP
  have HC2 : Hid (∀ k, cyc2.ownBlock = some k → w.heap.size ≤ k) := by
    intro k hk
    rcases hc with h | ⟨b, h, hb⟩
    · exact HC1.out k (h ▸ hk)
    · rw [h] at hk
      have := HF3.out.size
      have e : b = k := by simpa using hk
      omega
  have HF4 : Hid (Fr [] w w4) := HF3.out.trans hf (by
    intro x hx
    right
    simp at hx
    rcases hx with h | h
    · have := HG.out; omega
    · exact HC1.out x h)
  clear hP hc hf
  go_wp2_with fail
  refine (next_any g smallC 20 40 10 st2 _ _ (⟨54, 30, 45, 55⟩ : Vw) _ HP2.out).mono ?_
  rintro e w5 ⟨cyc3, rfl, hP, hc, hf⟩
  rw [step3]
  have HP3 : Hid (PT w5 g smallC 20 40 10 st3 _ cyc3) := hP
  have HC3 : Hid (∀ k, cyc3.ownBlock = some k → w.heap.size ≤ k) := by
    intro k hk
    rcases hc with h | ⟨b, h, hb⟩
    · exact HC2.out k (h ▸ hk)
    · rw [h] at hk
      have := HF4.out.size
      have e : b = k := by simpa using hk
      omega
  have HF5 : Hid (Fr [] w w5) := HF4.out.trans hf (by
    intro x hx
    right
    simp at hx
    rcases hx with h | h
    · have := HG.out; omega
    · exact HC2.out x h)
  clear hP hc hf
  go_wp2_with fail
  refine (next_any g smallC 20 40 10 st3 _ _ (⟨60, 24, 33, 67⟩ : Vw) _ HP3.out).mono ?_
  rintro e w6 ⟨cyc4, rfl, hP, hc, hf⟩
  rw [step4]
  have HP4 : Hid (PT w6 g smallC 20 40 10 st4 _ cyc4) := hP
  have HC4 : Hid (∀ k, cyc4.ownBlock = some k → w.heap.size ≤ k) := by
    intro k hk
    rcases hc with h | ⟨b, h, hb⟩
    · exact HC3.out k (h ▸ hk)
    · rw [h] at hk
      have := HF5.out.size
      have e : b = k := by simpa using hk
      omega
  have HF6 : Hid (Fr [] w w6) := HF5.out.trans hf (by
    intro x hx
    right
    simp at hx
    rcases hx with h | h
    · have := HG.out; omega
    · exact HC3.out x h)
  clear hP hc hf
  go_wp2_with fail
  refine (small_cfg _).mono ?_
  rintro e w7 ⟨rfl, hf⟩
  have HF7 := Lib.hid (HF6.out.trans hf (by simp))
  clear hf
  go_wp2_with fail
  refine (limit_any smallC 20 _).mono ?_
  rintro e w8 ⟨rfl, hf⟩
  rw [small_limit]
  have HF8 := Lib.hid (HF7.out.trans hf (by simp))
  clear hf
  go_wp2_with fail
  go_ret
  exact ⟨rfl, HF8.out⟩
end Go.Proofs.YtdcppdgnekhcgaaGreatDoor
