/-
  What Turn of the program's tenure comes to.
-/
import Derived.Test.YtdcppdgnekhcgaaDoorTen1
import Derived.Test.YtdcppdgnekhcgaaDoorTenPlain
import Derived.IntWalk
import Derived.Laws.CopyOwn
namespace Go.Proofs.YtdcppdgnekhcgaaDoor
open Go.RowKit Ten

def arr16 (f : Nat → Int) : Array Value :=
  #[.int .i64 (f 0), .int .i64 (f 1), .int .i64 (f 2), .int .i64 (f 3), .int .i64 (f 4), .int .i64 (f 5), .int .i64 (f 6), .int .i64 (f 7), .int .i64 (f 8),
    .int .i64 (f 9), .int .i64 (f 10), .int .i64 (f 11), .int .i64 (f 12), .int .i64 (f 13), .int .i64 (f 14), .int .i64 (f 15)]
theorem arr16_get (f : Nat → Int) {k : Nat} (h : k < 16) : (arr16 f)[k]? = some (.int .i64 (f k)) := by
  match k, h with
  | 0, _ | 1, _ | 2, _ | 3, _ | 4, _ | 5, _ | 6, _ | 7, _ | 8, _ | 9, _ | 10, _ | 11, _ | 12, _ | 13, _ | 14, _ | 15, _ => rfl
  | k + 16, h => omega

theorem idx16 (f : Nat → Int) {k : Nat} (h : k < 16) (w : World) : (Instr.index 53 (.agg (arr16 f)) (.int .i64 (k : Int))).run Tryd.prog w = .ok (.int .i64 (f k)) w := by
  have hk : k = 0 ∨ k = 1 ∨ k = 2 ∨ k = 3 ∨ k = 4 ∨ k = 5 ∨ k = 6 ∨ k = 7 ∨ k = 8 ∨ k = 9 ∨ k = 10 ∨ k = 11 ∨ k = 12 ∨ k = 13 ∨ k = 14 ∨ k = 15 := by omega
  clear h
  rcases hk with h | h | h | h | h | h | h | h | h | h | h | h | h | h | h | h <;> subst h <;> refine Eq.trans ?_ rfl <;> kernel_rfl

def TurnBad (w : World) (e : Ending) (w' : World) : Prop := e = .returned (.tuple #[.int .i64 0, .int .i64 71]) ∧ Fr [] w w'

theorem turn_bad (f : Nat → Int) (g : Nat) (wanted most : Int) (p : Nat → Int) (many : Int) (w : World) (hb : Bk w g 63 (tcells wanted most p many)) (hf : ¬ okW f) :
    Calls Tryd.prog 14 #[.pointer (some ⟨g, 0, none⟩), .agg (arr16 f)] w (TurnBad w) := by
  have HF := Lib.hid hf
  have HB := Lib.hid hb
  clear hf hb
  go_enter Tryd.func14, Tryd.ntmps14
  go_wp2_with (refine wpList_load_row rfl 53 _ rfl w.heap.size rfl 53 (arr16 f) (0, 0) _ (heap_alloc_new w _) Tryd.underlying53 rfl (by kernel_rfl) ?_)
  go_loop [12] (fun i => ∃ k : Nat, k ≤ 16 ∧ i = .int .i64 k ∧ Hid (∀ j, j < k → 0 ≤ f j ∧ f j ≤ 65536)) (fun i => 16 - (intOf i).toNat)
  case atStart => exact ⟨0, by omega, rfl, fun j hj => absurd hj (by omega)⟩
  case round =>
    obtain ⟨k, hk, rfl, hgood⟩ := hrel
    by_cases hlt : k < 16
    · have hix := idx16 f hlt
      go_wp2
      all_goals try (go_ret2; exact ⟨rfl, (Fr.refl _ _).alloc _⟩)
      · go_round
        case rel => exact ⟨k + 1, by omega, by go_num, fun j hj => by
          rcases Nat.lt_or_ge j k with h | h
          · exact hgood j h
          · obtain rfl : j = k := by omega
            omega⟩
        case measure => simp [intOf]; omega
    · exact absurd (fun j hj => hgood.out j (by omega)) HF.out

theorem copy_past (g : Nat) (wanted most : Int) (p : Nat → Int) (many : Int) (w : World) (hb : Bk w g 63 (tcells wanted most p many)) (ty : TypeId) (n : Nat) :
    (Builtin.copy_ #[29, 29] ty #[.slice (some ⟨g, 2, none⟩) 16 16, .slice (some ⟨g, 3, none⟩) 15 15]).run Tryd.prog (w.drewN n)
      = .ok (.int .i64 15) ((w.setRow g (tcells wanted most (shift p (p 15)) many)).drewN n) := by
  have h := run_copy_row (P := Tryd.prog) (w := w.drewN n) 29 29 ty 3 g 2 16 16 ⟨g, 3, none⟩ 15 15 (tcells wanted most p many) 63
    [.int .i64 (p 1), .int .i64 (p 2), .int .i64 (p 3), .int .i64 (p 4), .int .i64 (p 5), .int .i64 (p 6), .int .i64 (p 7), .int .i64 (p 8),
    .int .i64 (p 9), .int .i64 (p 10), .int .i64 (p 11), .int .i64 (p 12), .int .i64 (p 13), .int .i64 (p 14), .int .i64 (p 15)] Tryd.underlying29 (by kernel_rfl) (hb.drewN n) rfl
    (fun j v hj => by
      have hlt : j < 15 := (List.getElem?_eq_some_iff.1 hj).1
      have hk : j = 0 ∨ j = 1 ∨ j = 2 ∨ j = 3 ∨ j = 4 ∨ j = 5 ∨ j = 6 ∨ j = 7 ∨ j = 8 ∨ j = 9 ∨ j = 10 ∨ j = 11 ∨ j = 12 ∨ j = 13 ∨ j = 14 := by omega
      rw [← hj]
      rcases hk with h | h | h | h | h | h | h | h | h | h | h | h | h | h | h <;> subst h <;> exact (hb.drewN n).cell _) (show 17 ≤ 19 by decide) (by simp [Value.oneCell'])
  exact h

def TurnOk (g : Nat) (wanted most : Int) (p : Nat → Int) (many x : Int) (w : World) (e : Ending) (w' : World) : Prop :=
  e = .returned (.tuple #[.int .i64 x, .int .i64 0]) ∧ Bk w' g 63 (tcells wanted most (shift p x) (min (many + 1) 16)) ∧ Fr [g] w w'

theorem turn_end {g : Nat} {wanted most : Int} {p : Nat → Int} {many x x' y : Int} {w w2 : World} (hB : Bk w2 g 63 (tcells wanted most (shift p (p 15)) many)) (hf : Fr [g] w w2)
    (hx : x' = x) (hy : y = min (many + 1) 16) : TurnOk g wanted most p many x w (.returned (.tuple #[.int .i64 x', .int .i64 0])) ((w2.setCell ⟨g, 17, none⟩ (.int .i64 x')).setCell ⟨g, 18, none⟩ (.int .i64 y)) := by
  subst hx hy
  exact ⟨rfl, (hB.put 17 _).put 18 _, (hf.setCell (by simp) _).setCell (by simp) _⟩

theorem turn_ok (f : Nat → Int) (g : Nat) (wanted : Int) (most : Nat) (p : Nat → Int) (many : Int) (w : World) (hb : Bk w g 63 (tcells wanted most p many)) (hf : okW f)
    (hw0 : 0 ≤ wanted) (hw1 : wanted ≤ 65536) (hm0 : 1 ≤ most) (hm1 : most ≤ 15) (hn0 : 0 ≤ many) (hn1 : many ≤ 16) :
    Calls Tryd.prog 14 #[.pointer (some ⟨g, 0, none⟩), .agg (arr16 f)] w (TurnOk g wanted most p many (next f wanted most) w) := by
  have HF := Lib.hid hf
  have HB := Lib.hid hb
  clear hf hb
  go_enter Tryd.func14, Tryd.ntmps14
  go_wp2_with (refine wpList_load_row rfl 53 _ rfl w.heap.size rfl 53 (arr16 f) (0, 0) _ (heap_alloc_new w _) Tryd.underlying53 rfl (by kernel_rfl) ?_)
  have hcells : Hid (Bk (w.alloc (.cells (arr16 f) 53)) g 63 (tcells wanted most p many) ∧ Bk (w.alloc (.cells (arr16 f) 53)) w.heap.size 53 (arr16 f) ∧ Fr [] w (w.alloc (.cells (arr16 f) 53))) :=
    ⟨HB.out.alloc _, Bk.new w _ _, (Fr.refl _ _).alloc _⟩
  have hga := HB.out.lt
  generalize w.alloc (.cells (arr16 f) 53) = w1 at *
  generalize ha : w.heap.size = a at *
  have HA := Lib.hid ha
  clear ha
  go_loop [12] (fun i => ∃ k : Nat, k ≤ 16 ∧ i = .int .i64 k) (fun i => 16 - (intOf i).toNat)
  case atStart => exact ⟨0, by omega, rfl⟩
  case round =>
    obtain ⟨k, hk, rfl⟩ := hrel
    by_cases hlt : k < 16
    · have hix := idx16 f hlt
      obtain ⟨hf0, hf1⟩ := HF.out k hlt
      go_wp2
      go_round
      case rel => exact ⟨k + 1, by omega, by go_num⟩
      case measure => simp [intOf]; omega
    · have hc0 : w1.cell? ⟨g, 0, none⟩ = some (.int .i64 wanted) := hcells.out.1.cell 0
      have hc1 : w1.cell? ⟨g, 1, none⟩ = some (.int .i64 most) := hcells.out.1.cell 1
      go_wp2
      go_loop [8, 9, 10] (fun x i s => ∃ k : Nat, k ≤ most ∧ x = .int .i64 most ∧ i = .int .i64 ((k : Int) + 1) ∧ s = .int .i64 (sumTo f k) ∧ sumTo f k ≤ wanted) (fun _ i _ => 16 - (intOf i).toNat)
      case atStart => exact ⟨0, by omega, rfl, rfl, rfl, hw0⟩
      case round =>
        obtain ⟨k2, hk2, rfl, rfl, rfl, hs⟩ := hrel
        have hsb := sumTo_bound HF.out k2 (by omega)
        by_cases hlt2 : k2 < most
        · have hck : w1.cell? ⟨a, k2 + 1, none⟩ = some (.int .i64 (f (k2 + 1))) := (hcells.out.2.1.cell _).trans (arr16_get f (by omega))
          have hfk := HF.out (k2 + 1) (by omega)
          go_wp2
          · have hcp : ∀ ty, (Builtin.copy_ #[29, 29] ty #[.slice (some ⟨g, 2, none⟩) 16 16, .slice (some ⟨g, 3, none⟩) 15 15]).run Tryd.prog w1.drew
                = .ok (.int .i64 15) ((w1.setRow g (tcells wanted most (shift p (p 15)) many)).drew) := fun ty => copy_past g wanted most p many w1 hcells.out.1 ty 1
            go_region
            have hcells2 : Hid (Bk ((w1.setRow g (tcells wanted most (shift p (p 15)) many)).drew) g 63 (tcells wanted most (shift p (p 15)) many) ∧ Fr [g] w ((w1.setRow g (tcells wanted most (shift p (p 15)) many)).drew)) :=
              ⟨setRow_heap w1 g _ _ _ _ hcells.out.1, (hcells.out.2.2.mono (by simp)).trans (T := [g]) ⟨rfl, rfl, rfl, by simp, fun i _ hn => setRow_other w1 g i _ (by simpa using hn)⟩ (by simp)⟩
            clear hcp
            generalize ((w1.setRow g (tcells wanted most (shift p (p 15)) many)).drew) = w2 at *
            have hd17 : w2.cell? ⟨g, 17, none⟩ = some (.int .i64 (p 15)) := hcells2.out.1.cell 17
            have hd18 : w2.cell? ⟨g, 18, none⟩ = some (.int .i64 many) := hcells2.out.1.cell 18
            have hfz17 := hcells2.out.1.free 17
            have hfz18 := hcells2.out.1.free 18
            have hnx := next_break HF.out hs (show wanted < sumTo f (k2 + 1) by simp only [sumTo]; omega) (by omega) hm1
            have HN := Lib.hid hnx
            clear hnx
            go_wp2
            · go_ret2
              exact turn_end hcells2.out.1 hcells2.out.2 HN.out.symm (by omega)
            · go_ret2
              exact turn_end hcells2.out.1 hcells2.out.2 HN.out.symm (by omega)
          · go_round
            case rel => exact ⟨k2 + 1, by omega, rfl, by go_num, by simp only [sumTo], by simp only [sumTo]; omega⟩
            case measure => simp [intOf]; omega
        · have hnx : next f wanted most = most := next_end HF.out (by rw [show most = k2 from by omega]; exact hs) hm0 hm1
          have HN := Lib.hid hnx
          clear hnx
          go_wp2
          have hcp : ∀ ty, (Builtin.copy_ #[29, 29] ty #[.slice (some ⟨g, 2, none⟩) 16 16, .slice (some ⟨g, 3, none⟩) 15 15]).run Tryd.prog w1.drew
              = .ok (.int .i64 15) ((w1.setRow g (tcells wanted most (shift p (p 15)) many)).drew) := fun ty => copy_past g wanted most p many w1 hcells.out.1 ty 1
          go_region
          have hcells2 : Hid (Bk ((w1.setRow g (tcells wanted most (shift p (p 15)) many)).drew) g 63 (tcells wanted most (shift p (p 15)) many) ∧ Fr [g] w ((w1.setRow g (tcells wanted most (shift p (p 15)) many)).drew)) :=
            ⟨setRow_heap w1 g _ _ _ _ hcells.out.1, (hcells.out.2.2.mono (by simp)).trans (T := [g]) ⟨rfl, rfl, rfl, by simp, fun i _ hn => setRow_other w1 g i _ (by simpa using hn)⟩ (by simp)⟩
          clear hcp
          generalize ((w1.setRow g (tcells wanted most (shift p (p 15)) many)).drew) = w2 at *
          have hd17 : w2.cell? ⟨g, 17, none⟩ = some (.int .i64 (p 15)) := hcells2.out.1.cell 17
          have hd18 : w2.cell? ⟨g, 18, none⟩ = some (.int .i64 many) := hcells2.out.1.cell 18
          have hfz17 := hcells2.out.1.free 17
          have hfz18 := hcells2.out.1.free 18
          go_wp2
          · go_ret2
            exact turn_end hcells2.out.1 hcells2.out.2 HN.out.symm (by omega)
          · go_ret2
            exact turn_end hcells2.out.1 hcells2.out.2 HN.out.symm (by omega)

end Go.Proofs.YtdcppdgnekhcgaaDoor
