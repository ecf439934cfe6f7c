/-
  Roots: Update with an asker.
-/
import Derived.Test.YtdjemkgnhohcdaaRtM1
import Derived.Deep.RegionWith
namespace Go.Proofs.Ytdjemkgnhohcdaa
open Go.RowKit
set_option linter.unusedVariables false

set_option maxRecDepth 100000 in
set_option maxHeartbeats 1600000 in
theorem moved_vis (w0 : World) (bl n₀ : Nat) (hbl : bl < n₀) (A : Option Addr) (n c : Nat) (ans : List Int) (hna : n = ans.length) (hA : ∀ a, dA A ans = some a → a.block < n₀ ∧ a.block ≠ bl) :
    Vis n₀ 10000000000000 (bl :: (dA A ans).toList.map (fun a => a.block)) 41 #[.agg #[.func (.func 30) #[.pointer (some ⟨bl, 0, none⟩)] #[]]] (VA w0 bl n₀ A n c ans) (ansA ans) := by
  intro pre x b i t cs W hlen hs hn hb hc h0 hbn hbD
  have hne : b ≠ bl := fun e => hbD (by simp [e])
  have hne2 : ∀ a, dA A ans = some a → a.block ≠ b := fun a ha e => hbD (by simp [ha, e])
  have cx : W.cell? ⟨b, i, none⟩ = some (.int .i64 x) := by rw [hb.cell, hc]
  obtain ⟨y, hy⟩ : ∃ y, ans.getD pre.length 0 = y := ⟨_, rfl⟩
  have hyA : ansA ans pre x = max y 0 := by unfold ansA; rw [hy]
  rw [hyA]
  obtain ⟨u, hu⟩ : ∃ u, max y 0 = u := ⟨_, rfl⟩
  have HC : Hid (∀ Z, Fr [] W Z → Calls Try.prog 30 #[.pointer (some ⟨bl, 0, none⟩), .int .i64 x] Z fun e w' => e = .returned (.int .i64 y) ∧ w'.cell? ⟨b, i, none⟩ = some (.int .i64 x) ∧ w'.frozen? ⟨b, i, none⟩ = false ∧
      Hid (VA w0 bl n₀ A n c ans (pre ++ [x]) (w'.setCell ⟨b, i, none⟩ (.int .i64 u)) ∧ Bk (w'.setCell ⟨b, i, none⟩ (.int .i64 u)) b t (cs.setIfInBounds i (.int .i64 u)) ∧ Kb n₀ (b :: bl :: (dA A ans).toList.map (fun a => a.block)) W (w'.setCell ⟨b, i, none⟩ (.int .i64 u)))) := fun Z hZ => by
    have hsZ : VA w0 bl n₀ A n c ans pre Z := by
      obtain ⟨v, k1, k2, k3, k4⟩ := hs
      exact ⟨v, k1.fr hZ (by simp), k2.fr hZ (by simp), k3.fr hZ (by simp), fun a ha => (hZ.block a.block (Nat.lt_of_lt_of_le (hA a ha).1 hn) (by simp)).trans (k4 a ha)⟩
    refine (ask_any w0 bl n₀ hbl A n c ans hna hA hlen hsZ (Nat.le_trans hn hZ.size)).mono ?_
    rintro e w' ⟨rfl, hv, hk⟩
    rw [hy]
    have hbz : Bk w' b t cs := hk.bk (hb.fr hZ (by simp)) hbn (by simpa using hne)
    refine ⟨rfl, by rw [hbz.cell, hc], hbz.free i, ?_, hbz.put i _, ?_⟩
    · obtain ⟨v, k1, k2, k3, k4⟩ := hv
      have hsz := Nat.le_trans hZ.size hk.size
      exact ⟨v, k1.far (p := ⟨b, i, none⟩) (Ne.symm hne) _, k2.far (p := ⟨b, i, none⟩) (fun k hk2 e => by have := (k2.lt k hk2).1; simp only at e; omega) _, k3.frd (S := [b]) ((Fr.refl _ _).setCell (by simp) _) (fun a ha => by simpa using hne2 a ha), fun a ha => (Fr.block (S := [b]) ((Fr.refl _ _).setCell (by simp) _) a.block (Nat.lt_of_lt_of_le (Nat.lt_of_lt_of_le (hA a ha).1 hn) hsz) (by simpa using hne2 a ha)).trans (k4 a ha)⟩
    · exact ((Fr.kb (S := []) hZ (by simp)).trans (hk.weak (by simp))).trans (Fr.kb (S := [b]) ((Fr.refl _ _).setCell (by simp) _) (by simp))
  have lb := hb.lt
  clear hs hb hc hbD hyA hA hna hne hne2 hy
  show Calls Try.prog 41 #[.agg #[.func (.func 30) #[.pointer (some ⟨bl, 0, none⟩)] #[]], .pointer (some ⟨b, i, none⟩)] W _
  rw [hu]
  rcases (show 0 ≤ y ∨ y < 0 by omega) with hx0 | hx0
  · obtain rfl : u = y := by omega
    have e2 : (if u < 0 then (0 : Int) else u) = u := by split <;> omega
    clear hu
    go_enter Try.func41, Try.ntmps41
    go_upto_region 1 with fail
    go_region_with (go_at_call 30; refine (HC.out _ (by repeat (first | exact Fr.refl _ _ | refine Fr.drew ?_ | refine Fr.alloc ?_ _))).mono ?_; rintro e w' ⟨rfl, q1, q2, q3⟩)
    all_goals
      try rw [e2]
      go_wp2_with fail
      go_returns
      exact ⟨rfl, q3.out⟩
  · obtain rfl : u = 0 := by omega
    have e2 : (if y < 0 then (0 : Int) else y) = 0 := by split <;> omega
    clear hu
    go_enter Try.func41, Try.ntmps41
    go_upto_region 1 with fail
    go_region_with (go_at_call 30; refine (HC.out _ (by repeat (first | exact Fr.refl _ _ | refine Fr.drew ?_ | refine Fr.alloc ?_ _))).mono ?_; rintro e w' ⟨rfl, q1, q2, q3⟩)
    all_goals
      try rw [e2]
      go_wp2_with fail
      go_returns
      exact ⟨rfl, q3.out⟩

/-- What Update leaves. -/
def UpdR (b0 g bl : Nat) (a : RA) (F : List Nat) (A : Option Addr) (n c : Nat) (ans : List Int) (w : World) (e : Ending) (w' : World) : Prop :=
  e = .returned (.tuple #[]) ∧ ∃ v, Bk w' bl 56 #[.slice A n c, v] ∧ Lst w' w.heap.size 3 1 v (updA (ansA ans) a).1.length (iV (updA (ansA ans) a).1) ∧ RS b0 w' g (updA (ansA ans) a).2 F ∧ Fr (bl :: F) w w'

theorem update_any {b0 : Nat} {w : World} {g bl : Nat} {a : RA} {F : List Nat} (h : RS b0 w g a F) (hb0 : b0 ≤ w.heap.size) (hl : a.q.length ≤ 5000000000000) (A : Option Addr) (n c : Nat) (ans : List Int)
    (hB : Bk w bl 56 #[.slice A n c, .slice none 0 0]) (hbF : bl ∉ F) (hna : n = ans.length) (hr : RdI w A ans) (hA : ∀ a, dA A ans = some a → a.block < w.heap.size ∧ a.block ≠ bl ∧ a.block ∉ F) :
    Calls Try.prog 29 #[.pointer (some ⟨g, 0, none⟩), .func (.func 30) #[.pointer (some ⟨bl, 0, none⟩)] #[]] w (UpdR b0 g bl a F A n c ans w) := by
  obtain ⟨R, hR, rfl, rfl⟩ := h
  have hq : R.q.length ≤ 5000000000000 := hl
  have hlb := hB.lt
  have HC : Hid (Calls Try.prog 34 #[.pointer (some ⟨g, 0, none⟩), .func (.func 41) #[.agg #[.func (.func 30) #[.pointer (some ⟨bl, 0, none⟩)] #[]]] #[]] w (UpdR b0 g bl R.abs (R.foot g) A n c ans w)) := by
    refine (each_any (D := bl :: (dA A ans).toList.map (fun a => a.block)) (VS := fun n₀ => VA w bl n₀ A n c ans) (y := ansA ans) (N := 10000000000000) (f := 41) (fi := #[.agg #[.func (.func 30) #[.pointer (some ⟨bl, 0, none⟩)] #[]]]) hR hb0
      (fun x hx => by
        simp only [List.mem_cons, List.mem_map, Option.mem_toList] at hx
        rcases hx with rfl | ⟨a, ha, rfl⟩
        · exact ⟨hlb, hbF⟩
        · exact ⟨(hA a ha).1, (hA a ha).2.2⟩)
      (fun n₀ W h1 h2 h3 => ⟨_, hB.fr h3 (by simp), Lst.nil _ _ _ _, hr.fr h3 (by simp), fun a ha => h3.block a.block (hA a ha).1 (by simp)⟩)
      (fun n₀ h1 => moved_vis w bl n₀ (by omega) A n c ans hna (fun a ha => ⟨by have := (hA a ha).1; omega, (hA a ha).2.1⟩)) (enters_of Try.func41 (by kernel_rfl) rfl) (by have := sizeA_le hR; omega) (by omega)).mono ?_
    rintro e w' ⟨he, Rc, hE, hab⟩
    obtain ⟨v, k1, k2, _, k4⟩ := hE.vs
    have hkf := hE.kb.fr0 (by omega)
    refine ⟨he, v, k1, k2.mono (by omega), ⟨Rc, hE.rt, hab, hE.ft⟩, hkf.os, hkf.tape, hkf.output, hkf.size, fun k hk hn => ?_⟩
    by_cases hka : ∃ a, dA A ans = some a ∧ a.block = k
    · obtain ⟨a, ha, rfl⟩ := hka
      exact k4 a ha
    · refine hkf.block k hk (fun hx => ?_)
      rcases List.mem_append.1 hx with e | e
      · exact hn (List.mem_cons_of_mem _ e)
      · simp only [List.mem_cons, List.mem_map, Option.mem_toList] at e
        rcases e with e | ⟨a, ha, e⟩
        · exact hn (by simp [e])
        · exact hka ⟨a, ha, e⟩
  clear hR hl hq hlb hB hbF hna hr hA
  go_enter Try.func29, Try.ntmps29
  go_wp2_with fail
  refine (Calls.mono HC.out ?_)
  rintro e w' ⟨rfl, k⟩
  have K := Lib.hid k
  clear k
  go_wp2_with fail
  go_returns
  exact ⟨rfl, K.out⟩
end Go.Proofs.Ytdjemkgnhohcdaa
