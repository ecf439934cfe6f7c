/-
  Roots that nobody has used yet: All, Handles, the first Push and the second one.
-/
import Derived.Test.YtdjemkgnhohcdaaRt3
import Derived.Deep.RegionLaw
namespace Go.Proofs.Ytdjemkgnhohcdaa
open Go.RowKit
set_option linter.unusedVariables false

theorem all_fresh {g gT gH T S H : Nat} (w : World) (hf : FreshR w g gT gH T S H) :
    Calls Try.prog 11 #[.pointer (some ⟨g, 0, none⟩)] w fun e w' => e = .returned (.slice none 0 0) ∧ Fr [] w w' := by
  have HF := Lib.hid (hf.fr ((Fr.refl [] w).alloc (.cells #[.slice none 0 0] 78)))
  have HB := Lib.hid (Bk.new w 78 #[.slice none 0 0])
  have HR := Lib.hid ((Fr.refl [] w).alloc (.cells #[.slice none 0 0] 78))
  clear hf
  go_enter Try.func11, Try.ntmps11
  go_wp2_with fail
  refine (each_fresh _ _ _ _ HF.out).mono ?_
  rintro e w1 ⟨rfl, hf⟩
  have HR1 := Lib.hid (HR.out.trans hf (by simp))
  have HB1 := Lib.hid (HB.out.fr hf (by simp))
  clear hf
  have c0 : w1.cell? ⟨w.heap.size, 0, none⟩ = some (.slice none 0 0) := HB1.out.cell 0
  go_wp2_with fail
  go_ret
  exact ⟨rfl, HR1.out⟩

set_option maxHeartbeats 1600000 in
theorem handles_fresh {g gT gH T S H : Nat} (w : World) (hf : FreshR w g gT gH T S H) :
    Calls Try.prog 13 #[.pointer (some ⟨g, 0, none⟩)] w fun e w' => ∃ v, e = .returned v ∧ Lst w' w.heap.size 3 1 v H (List.replicate H (.int .i64 (-1))) ∧ Fr [] w w' := by
  have hH1 := hf.ok.2.2.2.2
  have c2 : w.cell? ⟨g, 2, none⟩ = some (.slice (some ⟨gH, 0, none⟩) H H) := hf.B.cell 2
  have HF := Lib.hid hf
  obtain ⟨i2, hi2, hz2, hs2, hb2⟩ := info_parts int_info
  clear hf
  go_enter Try.func13, Try.ntmps13
  go_wp2_with fail
  go_loopw [3, 11] (fun v i wr => ∃ k : Nat, k ≤ H ∧ i = .int .i64 k ∧ Hid (Lst wr w.heap.size 3 1 v k (List.replicate k (.int .i64 (-1))) ∧ Fr [] w wr)) (fun _ i _ => H - (intOf i).toNat)
  case atStart => exact ⟨0, by omega, rfl, Lst.nil _ _ _ _, Fr.refl _ _⟩
  case round =>
    obtain ⟨k, hk, rfl, hx⟩ := hrel
    have HL := Lib.hid hx.out.1
    have HW := Lib.hid hx.out.2
    clear hx c2
    by_cases hlt : k < H
    · have ck : wr.cell? ⟨gH, k * 2, none⟩ = some (.bool false) := by rw [((HF.out.fr HW.out).Hd).cell, shutH_open hlt]
      have ck1 : wr.cell? ⟨gH, k * 2 + 1, none⟩ = some (.int .i64 0) := by rw [((HF.out.fr HW.out).Hd).cell, shutH_at hlt]
      have hl := ((HF.out.fr HW.out).Hd).lt
      have i1 : (0 : Int) ≤ (k : Int) := by omega
      have i2' : (k : Int) < (H : Int) := by omega
      go_wp2_with (at_builtin; refine wpList_append_lst _ rfl (.tmp 22) (.tmp 23) _ rfl w.heap.size 3 i2 _ 1 8 Try.underlying31 hi2 hz2 hs2 hb2 rfl _ k (List.replicate k (.int .i64 (-1))) rfl ((HL.out.alloc _).alloc _) ⟨wr.heap.size + 1, 0, none⟩ 1 1 [.int .i64 (-1)] rfl rfl (World.news_of_block ((Bk.new_at _ _ _ _ (by simp)))) ?c2 ?c3 ?c4 ?c5 ?c6)
      case c2 => simp [Value.oneCell']
      case c3 => unfold maxLen; omega
      case c4 => omega
      case c5 => have := HW.out.size; simp; omega
      case c6 =>
        intro v2 w2 hown hgrow hat
        have HL2 : Hid (Lst w2 w.heap.size 3 1 v2 (k + 1) (List.replicate (k + 1) (.int .i64 (-1)))) := by
          rw [List.replicate_succ']
          exact hown
        have HW2 : Hid (Fr [] w w2) := (((HW.out.alloc _).alloc _).grown hgrow (fun j hj => .inr (HL.out.lt j hj).1))
        clear hown hgrow hat
        go_wp2
        go_roundw
        case rel => exact ⟨k + 1, by omega, by go_num, HL2.out, HW2.out⟩
        case measure => simp [intOf]; omega
    · have hkH : k = H := by omega
      rw [hkH] at HL
      clear hkH
      go_wp2_with fail
      go_ret
      exact ⟨_, rfl, HL.out, HW.out⟩

/-- Behind the first Push of a frame of n. -/
structure OneR (w : World) (g gT gr gf T S H n cap : Nat) : Prop where
  c0 : w.cell? ⟨g, 0, none⟩ = some (.int .i64 S)
  c1 : ∃ A, w.cell? ⟨g, 1, none⟩ = some (.slice (some ⟨gT, 0, none⟩) T A)
  ct : w.cell? ⟨gT, 0, none⟩ = some (.slice (some ⟨gr, 0, none⟩) 1 cap)
  cf : w.cell? ⟨gr, 0, none⟩ = some (.slice (some ⟨gf, 0, none⟩) n n)

theorem one_of {w w1 : World} {g gT gH T S H gg cap n fb : Nat} (hf : FreshR w g gT gH T S H) (hfr : Fr [] w w1) (hgT : gg ≠ gT) (hcell : w1.cell? ⟨gg, 0, none⟩ = some (.slice (some ⟨fb, 0, none⟩) n n)) :
    OneR (w1.setCell ⟨gT, 0, none⟩ (.slice (some ⟨gg, 0, none⟩) 1 cap)) g gT gg fb T S H n cap ∧ Fr [gT] w (w1.setCell ⟨gT, 0, none⟩ (.slice (some ⟨gg, 0, none⟩) 1 cap)) := by
  have hb := hf.B.fr hfr (by simp)
  have ht := hf.Th.fr hfr (by simp)
  have hne : g ≠ gT := hf.B.ne hf.Th (by decide)
  have h1 := hf.ok.1
  refine ⟨⟨(hb.far (p := ⟨gT, 0, none⟩) hne _).cell 0, ⟨T, (hb.far (p := ⟨gT, 0, none⟩) hne _).cell 1⟩, ?_, ?_⟩, (hfr.mono (by simp)).setCell (p := ⟨gT, 0, none⟩) (.inl (by simp)) _⟩
  · rw [(ht.put 0 _).cell 0, Array.getElem?_setIfInBounds]
    simp
    omega
  · have hn : (⟨gT, 0, none⟩ : Addr) ≠ ⟨gg, 0, none⟩ := fun e => hgT (Addr.mk.inj e).1.symm
    rw [World.cell?_setCell_other _ _ _ _ hn]
    exact hcell

set_option maxHeartbeats 4000000 in
theorem push_first {g gT gH T S H : Nat} (w : World) (hf : FreshR w g gT gH T S H) :
    Calls Try.prog 15 #[.pointer (some ⟨g, 0, none⟩), .int .i64 0, .int .i64 S] w fun e w' => ∃ gr gf cap, e = .returned (.int .i64 0) ∧ OneR w' g gT gr gf T S H S cap ∧ Fr [gT] w w' := by
  obtain ⟨T0, T1, S0, S1, H1⟩ := hf.ok
  have c0 : w.cell? ⟨g, 0, none⟩ = some (.int .i64 S) := hf.B.cell 0
  have c1 : w.cell? ⟨g, 1, none⟩ = some (.slice (some ⟨gT, 0, none⟩) T T) := hf.B.cell 1
  have ct : w.cell? ⟨gT, 0, none⟩ = some (.slice none 0 0) := by rw [hf.Th.cell]; simp [show 0 < T by omega]
  have ft := hf.Th.free 0
  have d : (decide (0 ≤ (0 : Int)) && decide ((0 : Int) < (T : Int))) = true := by simp; omega
  have HD := Lib.hid d
  have HF := Lib.hid hf
  have t1 : (0 : Int) < (T : Int) := by omega
  have t1n : 0 < T := by omega
  obtain ⟨i2, hi2, hz2, hs2, hb2⟩ := info_parts int_info
  obtain ⟨i3, hi3, hz3, hs3, hb3⟩ := info_parts ints_info
  have hm1 : ∀ W : World, (Instr.makeSlice 31 (.int .i64 (S : Int)) (.int .i64 (S : Int))).run Try.prog W = .ok (.slice (some ⟨W.heap.size, 0, none⟩) S S) (W.alloc (.cells (Array.replicate S (.int .i64 0)) 3)) := fun W => by
    have h := run_make_rowN (P := Try.prog) 31 3 i2 _ Try.underlying31 hi2 hz2 .i64 .i64 S S (Nat.le_refl _) (by rw [hb2]; omega) (by omega) W
    rw [h, hs2, Nat.mul_one]
    rw [show (Value.int .i64 0).cells = #[.int .i64 0] from rfl, made_one]
  clear hf d hi2 hz2 hs2 hb2
  go_enter Try.func15, Try.ntmps15
  go_wp2_with fail
  refine (has_any g T T _ 0 w T1 c1).mono ?_
  rintro e w' ⟨rfl, rfl⟩
  rw [HD.out]
  go_wp2_with fail
  go_loop [30, 7] (fun i r => i = .int .i64 0 ∧ r = .int .i64 S) (fun _ _ => 0)
  case atStart => exact ⟨rfl, rfl⟩
  case round =>
    obtain ⟨rfl, rfl⟩ := hrel
    go_wp2_with fail
    have HK : Hid (∀ {W : World}, Fr [gT] w W → W.cell? ⟨g, 1, none⟩ = some (.slice (some ⟨gT, 0, none⟩) T T)) := fun {W} hf =>
      (HF.out.B.fr hf (by simp; exact HF.out.B.ne HF.out.Th (by decide))).cell 1
    have HKC : Hid (∀ {W : World}, Fr [] w W → W.cell? ⟨gT, 0, none⟩ = some (.slice none 0 0) ∧ W.frozen? ⟨gT, 0, none⟩ = false) := fun {W} hf => by
      have k := HF.out.fr hf
      exact ⟨by rw [k.Th.cell]; simp [show 0 < T by omega], k.Th.free 0⟩
    have lg := HF.out.B.lt
    have lt := HF.out.Th.lt
    go_region_law
      ((refine step_append_lies _ (by rfl) _ _ _ (by rfl) 0 31 i3 _ 1 24 Try.underlying41 hi3 hz3 hs3 hb3 rfl (by omega) (.slice none 0 0) 0 [] (by rfl) (World.ownsRow_nil _ _ _ _)
          ⟨w.heap.size + 1, 0, none⟩ 1 1 [.slice (some ⟨w.heap.size, 0, none⟩) S S] (by rfl) (by rfl) (World.news_of_block (cs := #[.slice (some ⟨w.heap.size, 0, none⟩) S S]) (t := 31) (fr := (0, 0)) (Bk.new_at _ _ _ _ (by simp))) (by simp [Value.oneCell'])
          (by omega) (by unfold maxLen; omega) (by omega) (Nat.zero_le _) (w.heap.size + 2) (by simp) ?_; intro gg cap w1 hown1 hgrow hat hlt; have hcz : w1.cell? ⟨gT, 0, none⟩ = some (.slice none 0 0) := (HKC.out (by repeat (first | exact Fr.refl _ _ | refine Fr.drew ?_ | refine Fr.alloc ?_ _ | refine Fr.grown ?_ hgrow (by simp [Value.ownBlock])))).1; have hfz : w1.frozen? ⟨gT, 0, none⟩ = false := (HKC.out (by repeat (first | exact Fr.refl _ _ | refine Fr.drew ?_ | refine Fr.alloc ?_ _ | refine Fr.grown ?_ hgrow (by simp [Value.ownBlock])))).2; have hc1 : w1.cell? ⟨g, 1, none⟩ = some (.slice (some ⟨gT, 0, none⟩) T T) := HK.out (by repeat (first | exact Fr.refl _ _ | refine Fr.drew ?_ | refine Fr.alloc ?_ _ | refine Fr.grown ?_ hgrow (by simp [Value.ownBlock])))))
    all_goals
      have hfr : Fr [] w w1 := by
        refine Fr.grown ?_ hgrow (by simp [Value.ownBlock])
        repeat (first | exact Fr.refl _ _ | refine Fr.drew ?_ | refine Fr.alloc ?_ _)
      have hgT : gg ≠ gT := by
        rcases hat with h | h
        · simp [Value.ownBlock] at h
        · omega
      have hcell : w1.cell? ⟨gg, 0, none⟩ = some (.slice (some ⟨w.heap.size, 0, none⟩) S S) := by
        have := hown1.cells (g := gg) rfl 0 _ rfl
        simpa [Addr.add] using this
      have HX := Lib.hid (And.intro hfr (And.intro hgT hcell))
      clear hfr hgT hcell hown1 hgrow hat hcz hfz
      go_wp2_with fail
      go_ret
      obtain ⟨k1, k2⟩ := one_of (cap := cap) HF.out HX.out.1 HX.out.2.1 HX.out.2.2
      exact ⟨gg, w.heap.size, cap, rfl, k1, k2⟩

theorem push_second {g gT gr gf T S H cap : Nat} (w : World) (T0 : 1 ≤ T) (T1 : T ≤ 8) (S0 : 1 ≤ S) (S1 : S ≤ 4096) (hf : OneR w g gT gr gf T S H S cap) :
    Calls Try.prog 15 #[.pointer (some ⟨g, 0, none⟩), .int .i64 0, .int .i64 1] w fun e w' => e = .returned (.int .i64 53) ∧ w = w' := by
  obtain ⟨c0, ⟨A, c1⟩, ct, cf⟩ := hf
  have d : (decide (0 ≤ (0 : Int)) && decide ((0 : Int) < (T : Int))) = true := by simp; omega
  have HD := Lib.hid d
  have t1n : 0 < T := by omega
  clear d
  go_enter Try.func15, Try.ntmps15
  go_wp2_with fail
  refine (has_any g T A _ 0 w T1 c1).mono ?_
  rintro e w' ⟨rfl, rfl⟩
  rw [HD.out]
  go_wp2_with fail
  go_loop [30, 7] (fun i r => (i = .int .i64 0 ∧ r = .int .i64 S) ∨ (i = .int .i64 1 ∧ r = .int .i64 0)) (fun i _ => 1 - (intOf i).toNat)
  case atStart => exact .inl ⟨rfl, rfl⟩
  case round =>
    rcases hrel with ⟨rfl, rfl⟩ | ⟨rfl, rfl⟩
    · go_wp2_with fail
      go_round
      case rel => exact .inr ⟨rfl, by simp⟩
      case measure => simp [intOf]
    · go_wp2_with fail
      go_ret
      exact ⟨rfl, rfl⟩
end Go.Proofs.Ytdjemkgnhohcdaa
