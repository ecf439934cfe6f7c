/-
  What Turn of the document's tenure comes to.
-/
import Derived.Test.YtkldeichodogdaaTen2
import Derived.Deep.AppendLies
namespace Go.Proofs.Ytkldeichodogdaa
open Go.RowKit Ten

theorem rturn_bad (f : Nat → Int) (g : Nat) (w : World) (hf : ¬ okW f) :
    Calls Try.prog 10 #[.pointer (some ⟨g, 0, none⟩), .agg (arr16 f)] w (TurnBad w) := by
  have HF := Lib.hid hf
  clear hf
  go_enter Try.func10, Try.ntmps10
  go_wp2
  have hcells : Hid (Bk (w.alloc (.cells (arr16 f) 31)) w.heap.size 31 (arr16 f) ∧ Fr [] w (w.alloc (.cells (arr16 f) 31))) :=
    ⟨Bk.new w _ _, (Fr.refl _ _).alloc _⟩
  generalize w.alloc (.cells (arr16 f) 31) = w1 at *
  generalize ha : w.heap.size = a at *
  have HA := Lib.hid ha
  clear ha
  go_loop [6] (fun i => ∃ k : Nat, k ≤ 16 ∧ i = .int .i64 k ∧ Hid (∀ j, j < k → 0 ≤ f j ∧ f j ≤ 65536)) (fun i => 16 - (intOf i).toNat)
  case atStart => exact ⟨0, by omega, rfl, fun j hj => absurd hj (by omega)⟩
  case round =>
    obtain ⟨k, hk, rfl, hgood⟩ := hrel
    by_cases hlt : k < 16
    · have hck : w1.cell? ⟨a, k, none⟩ = some (.int .i64 (f k)) := (hcells.out.1.cell _).trans (arr16_get f hlt)
      go_wp2
      all_goals try (go_ret2; exact ⟨rfl, hcells.out.2⟩)
      · go_round
        case rel => exact ⟨k + 1, by omega, by go_num, fun j hj => by
          rcases Nat.lt_or_ge j k with h | h
          · exact hgood j h
          · obtain rfl : j = k := by omega
            omega⟩
        case measure => simp [intOf]; omega
    · exact absurd (fun j hj => hgood.out j (by omega)) HF.out

def RTurnOk (g b : Nat) (wanted most : Int) (l : List Int) (x : Int) (w : World) (e : Ending) (w' : World) : Prop :=
  ∃ b', e = .returned (.tuple #[.int .i64 x, .int .i64 0]) ∧ RIs w' g b' wanted most (l ++ [x]) ∧ (b' = b ∨ w.heap.size ≤ b') ∧ Fr [g, b] w w'

theorem rturn_end {g b b' cap' : Nat} {wanted most : Int} {l : List Int} {x x' : Int} {w w2 : World} {v : Value} (hx : x' = x) (hb : Bk w2 g 51 (rcells wanted most v))
    (ho : w2.ownsRow 0 3 1 (.slice (some ⟨b', 0, none⟩) (l.length + 1) cap') (l.length + 1) (ints l ++ [.int .i64 x'])) (hne : g ≠ b') (hb' : b' = b ∨ w.heap.size ≤ b') (hf : Fr [g, b] w w2) :
    RTurnOk g b wanted most l x w (.returned (.tuple #[.int .i64 x', .int .i64 0])) (w2.setCell ⟨g, 2, none⟩ (.slice (some ⟨b', 0, none⟩) (l.length + 1) cap')) := by
  subst hx
  refine ⟨b', rfl, ⟨cap', ?_, ?_⟩, hb', hf.setCell (by simp) _⟩
  · have := hb.put 2 (.slice (some ⟨b', 0, none⟩) (l.length + 1) cap')
    simpa [rcells] using this
  · have h2 := own_fr ho ((Fr.refl [g] w2).setCell (p := ⟨g, 2, none⟩) (by simp) (.slice (some ⟨b', 0, none⟩) (l.length + 1) cap')) (fun k hk => by
      have : k = b' := by simpa [Value.ownBlock] using hk.symm
      subst this
      simpa using Ne.symm hne)
    simpa [ints] using h2

theorem int_info : (Try.prog.info? 3).map (fun i => (i.zero, i.size, i.bytes)) = some (some (.int .i64 0), 1, 8) := by kernel_rfl

theorem rturn_ok (f : Nat → Int) (g b : Nat) (wanted : Int) (most : Nat) (l : List Int) (w : World) (hr : RIs w g b wanted most l) (hl : l.length ≤ 1000) (hf : okW f)
    (hw0 : 0 ≤ wanted) (hw1 : wanted ≤ 65536) (hm0 : 1 ≤ most) (hm1 : most ≤ 15) :
    Calls Try.prog 10 #[.pointer (some ⟨g, 0, none⟩), .agg (arr16 f)] w (RTurnOk g b wanted most l (next f wanted most) w) := by
  have HF := Lib.hid hf
  have HR := Lib.hid hr
  obtain ⟨hglt, hblt⟩ := hr.lt
  clear hf hr
  go_enter Try.func10, Try.ntmps10
  go_wp2
  have hcells : Hid (Bk (w.alloc (.cells (arr16 f) 31)) w.heap.size 31 (arr16 f) ∧ RIs (w.alloc (.cells (arr16 f) 31)) g b wanted most l ∧ Fr [] w (w.alloc (.cells (arr16 f) 31))) :=
    ⟨Bk.new w _ _, HR.out.fr ((Fr.refl [] _).alloc _) (by simp) (by simp), (Fr.refl _ _).alloc _⟩
  generalize w.alloc (.cells (arr16 f) 31) = w1 at *
  generalize ha : w.heap.size = a at *
  have HA := Lib.hid ha
  clear ha
  go_loop [6] (fun i => ∃ k : Nat, k ≤ 16 ∧ i = .int .i64 k) (fun i => 16 - (intOf i).toNat)
  case atStart => exact ⟨0, by omega, rfl⟩
  case round =>
    obtain ⟨k, hk, rfl⟩ := hrel
    by_cases hlt : k < 16
    · have hck : w1.cell? ⟨a, k, none⟩ = some (.int .i64 (f k)) := (hcells.out.1.cell _).trans (arr16_get f hlt)
      obtain ⟨hf0, hf1⟩ := HF.out k hlt
      go_wp2
      go_round
      case rel => exact ⟨k + 1, by omega, by go_num⟩
      case measure => simp [intOf]; omega
    · obtain ⟨cap, hb, ho⟩ := hcells.out.2.1
      have hc0 : w1.cell? ⟨g, 0, none⟩ = some (.int .i64 wanted) := hb.cell 0
      have hc1 : w1.cell? ⟨g, 1, none⟩ = some (.int .i64 most) := hb.cell 1
      have hc2 : w1.cell? ⟨g, 2, none⟩ = some (.slice (some ⟨b, 0, none⟩) l.length cap) := hb.cell 2
      have HB := Lib.hid hb
      have HO := Lib.hid ho
      clear hb ho
      go_wp2
      go_loop [7, 8, 9] (fun n s i => ∃ k : Nat, k + 1 ≤ most ∧ i = .int .i64 ((k : Int) + 1) ∧ s = .int .i64 (wanted - sumTo f k) ∧ n = .int .i64 (within f wanted k)) (fun _ _ i => 16 - (intOf i).toNat)
      case atStart => exact ⟨0, by omega, rfl, by simp [sumTo], rfl⟩
      case round =>
        obtain ⟨k2, hk2, rfl, rfl, rfl⟩ := hrel
        have hsb := sumTo_bound HF.out k2 (by omega)
        have hwb := within_bound f wanted k2
        by_cases hlt2 : k2 + 1 < most
        · have hck : w1.cell? ⟨a, k2 + 1, none⟩ = some (.int .i64 (f (k2 + 1))) := (hcells.out.1.cell _).trans (arr16_get f (by omega))
          have hfk := HF.out (k2 + 1) (by omega)
          go_wp2
          all_goals
            go_round
            case rel => exact ⟨k2 + 1, by omega, by go_num, by simp only [sumTo]; go_num, by
              have e : sumTo f (k2 + 1) = sumTo f k2 + f (k2 + 1) := rfl
              rw [within]
              first
                | (rw [if_pos (by omega)])
                | (rw [if_neg (by omega)]; simp)⟩
            case measure => simp [intOf]; omega
        · have hnx : next f wanted most = within f wanted k2 + 1 := by
            unfold next
            rw [show most - 1 = k2 from by omega]
          have HN := Lib.hid hnx
          clear hnx
          obtain ⟨i0, hi, hz0, hz1, hz2⟩ := info_parts int_info
          have hsz : a < w1.heap.size := hcells.out.1.lt
          go_wp2_with (at_builtin; refine wpList_append_lies _ rfl (.tmp 49) (.tmp 52) _ rfl 0 3 i0 (.int .i64 0) 1 8 Try.underlying44 hi hz0 hz1 hz2 rfl (by decide) _ l.length (ints l) rfl (HO.out.alloc _) ⟨w1.heap.size, 0, none⟩ 1 1 [.int .i64 (within f wanted k2 + 1)] rfl rfl ?c1 ?c2 (by decide) ?c3 ?c4 (Nat.zero_le _) _ rfl ?c5)
          case c2 => simp [Value.oneCell']
          case c3 => unfold maxLen; omega
          case c4 => omega
          case c5 =>
            intro b' cap' w2 hown hgrow hat hlt'
            have hne : g ≠ b' := by
              rintro rfl
              rcases hat with h | h
              · have : b = g := by simpa [Value.ownBlock] using h
                exact hcells.out.2.1.ne this.symm
              · omega
            have hg2 : Bk w2 g 51 (rcells wanted most (.slice (some ⟨b, 0, none⟩) l.length cap)) := (HB.out.alloc _).fr (Fr.of_grown hgrow) (by
              simpa [Value.ownBlock] using hcells.out.2.1.ne)
            have hfr : Fr [g, b] w w2 := ((hcells.out.2.2.mono (by simp)).alloc _).grown hgrow (fun k hk => by
              have : k = b := by simpa [Value.ownBlock] using hk.symm
              subst this
              simp)
            have hb' : b' = b ∨ w.heap.size ≤ b' := by
              rcases hat with h | h
              · exact .inl (by simpa [Value.ownBlock] using h.symm)
              · exact .inr (by have := HA.out; omega)
            have hd2 : w2.cell? ⟨g, 2, none⟩ = some (.slice (some ⟨b, 0, none⟩) l.length cap) := hg2.cell 2
            have hfz := hg2.free 2
            have HG := Lib.hid hg2
            have HO2 := Lib.hid hown
            have HGr := Lib.hid hgrow
            have HF2 := Lib.hid hfr
            have Hhat := Lib.hid hat
            have HB' := Lib.hid hb'
            clear hg2 hown hgrow hfr hat hb'
            go_wp2
            go_ret2
            exact rturn_end HN.out.symm HG.out HO2.out hne HB'.out HF2.out
end Go.Proofs.Ytkldeichodogdaa
