/-
  History of both.
-/
import Derived.Test.YtkldeichodogdaaTen5
import Derived.Test.YtkldeichodogdaaSame
namespace Go.Proofs.Ytkldeichodogdaa
open Go.RowKit Ten

/-- The last of the sixteen, as many as there are. -/
def lastOf (p : Nat → Int) (many : Nat) : List Int := (List.range many).map fun j => p (16 - many + j)

theorem slice16 (a many : Nat) (h1 : 1 ≤ many) (h2 : many ≤ 16) (W : World) :
    (Instr.sliceAt 31 (.pointer (some ⟨a, 0, none⟩)) (some (.int .i64 (16 - (many : Int)))) none none).run Try.prog W = .ok (.slice (some ⟨a, 16 - many, none⟩) many many) W := by
  have hk : many = 1 ∨ many = 2 ∨ many = 3 ∨ many = 4 ∨ many = 5 ∨ many = 6 ∨ many = 7 ∨ many = 8 ∨ many = 9 ∨ many = 10 ∨ many = 11 ∨ many = 12 ∨ many = 13 ∨ many = 14 ∨ many = 15 ∨ many = 16 := by omega
  clear h1 h2
  rcases hk with h | h | h | h | h | h | h | h | h | h | h | h | h | h | h | h <;> subst h <;> refine Eq.trans ?_ rfl <;> kernel_rfl

theorem lastOf_length (p : Nat → Int) (many : Nat) : (lastOf p many).length = many := by simp [lastOf]

def IntsBack (l : List Int) (w : World) (e : Ending) (w' : World) : Prop :=
  ∃ A c, e = .returned (.slice A l.length c) ∧ RdI w' A l ∧ (∀ a, A = some a → w.heap.size ≤ a.block) ∧ Fr [] w w'

theorem history_any (g : Nat) (wanted most : Int) (p : Nat → Int) (many : Nat) (w : World) (h : Bk w g 49 (tcells wanted most p many)) (h1 : 1 ≤ many) (h2 : many ≤ 16) :
    Calls Try.prog 18 #[.pointer (some ⟨g, 0, none⟩)] w (IntsBack (lastOf p many) w) := by
  have HB := Lib.hid h
  have hm : w.cell? ⟨g, 18, none⟩ = some (.int .i64 (many : Int)) := h.cell 18
  have hglt := h.lt
  have HRA : Hid (w.rangeAt g 2 (arr16 p).toList) := fun j v hj => by
    have hlt : j < 16 := (List.getElem?_eq_some_iff.1 hj).1
    have hk : j = 0 ∨ j = 1 ∨ j = 2 ∨ j = 3 ∨ j = 4 ∨ j = 5 ∨ j = 6 ∨ j = 7 ∨ j = 8 ∨ j = 9 ∨ j = 10 ∨ j = 11 ∨ j = 12 ∨ j = 13 ∨ j = 14 ∨ j = 15 := by omega
    rw [← hj]
    rcases hk with h | h | h | h | h | h | h | h | h | h | h | h | h | h | h | h <;> subst h <;> exact HB.out.cell _
  clear h
  obtain ⟨w1, hw1⟩ : ∃ w1, w1 = ((w.alloc (.cells (arr16 fun _ => 0) 31)).setRow w.heap.size (arr16 p)) := ⟨_, rfl⟩
  have f1 : Hid (Bk w1 w.heap.size 31 (arr16 p)) := by
    subst hw1
    exact setRow_heap _ _ _ _ _ _ (heap_alloc_new w _)
  have f2 : Hid (Fr [] w w1) := by
    subst hw1
    exact ⟨rfl, rfl, rfl, by simp, fun k hk _ => (setRow_other _ _ _ _ (by omega)).trans (Below.heap_alloc w _ k hk)⟩
  have H1 := Lib.hid hw1
  clear hw1
  have hsz : w.heap.size < w1.heap.size := f1.out.lt
  have hm' : w1.cell? ⟨g, 18, none⟩ = some (.int .i64 (many : Int)) := (World.cell?_of_block (f2.out.block g hglt (by simp))).trans hm
  obtain ⟨i0, hi, hz0, hz1, hz2⟩ := info_parts int_info
  have hsl := slice16 w.heap.size many h1 h2
  go_enter Try.func18, Try.ntmps18
  go_wp2_with (first | (refine wpList_load_mid rfl 31 _ rfl g 2 rfl (arr16 p).toList _ HRA.out Try.underlying31 rfl (by kernel_rfl) ?_) | (refine wpList_store_row rfl 31 _ _ rfl w.heap.size (arr16 p) rfl rfl 31 _ (heap_alloc_new w _) (by kernel_rfl) rfl (by simp [arr16, Value.oneCell']) ?_; change wpList _ _ _ _ _ ((w.alloc (.cells (arr16 fun _ => 0) 31)).setRow w.heap.size (arr16 p)); rw [← H1.out]) | (at_builtin; refine wpList_append_lies _ rfl (.const (.slice none 0 0)) (.tmp 13) _ rfl w.heap.size 3 i0 (.int .i64 0) 1 8 Try.underlying44 hi hz0 hz1 hz2 rfl (by decide) _ 0 [] rfl (World.ownsRow_nil _ _ _ _) ⟨w.heap.size, 16 - many, none⟩ many many (ints (lastOf p many)) rfl ?c0 ?c1 ?c2 (by omega) ?c3 ?c4 f2.out.size _ rfl ?c6))
  case c0 => simp [ints, lastOf_length]
  case c1 =>
    intro j u hj
    have hlt : j < many := by
      have := (List.getElem?_eq_some_iff.1 hj).1
      simpa [ints, lastOf_length] using this
    rw [Addr.add_mid, f1.out.cell, arr16_get _ (by omega)]
    simp only [ints, lastOf, List.getElem?_map, List.getElem?_range hlt] at hj
    simpa using hj
  case c2 => simp [ints, Value.oneCell']
  case c3 => unfold maxLen; omega
  case c4 => omega
  case c6 =>
    intro b' cap' w2 hown hgrow hat hlt'
    have hf3 : Hid (Fr [] w w2) := f2.out.grown hgrow (by simp [Value.ownBlock])
    have HO := Lib.hid hown
    clear hown hgrow hat
    go_wp2
    go_ret
    have e : (0 + many) = (lastOf p many).length := by rw [lastOf_length]; omega
    obtain ⟨_, hR⟩ := RdI.own (l := lastOf p many) (by have := HO.out; simpa [ints] using this)
    refine ⟨some ⟨b', 0, none⟩, cap', by simp [lastOf_length], hR, ?_, hf3.out⟩
    intro a ha
    obtain rfl : (⟨b', 0, none⟩ : Addr) = a := by simpa using ha
    exact (HO.out.lt b' rfl).1

def lastL (l : List Int) : List Int := l.drop (l.length - 16)

def RelH (w : World) (g b : Nat) (wanted most : Int) (l : List Int) (q : Nat) (v : Value) (wr : World) : Prop :=
  RIs wr g b wanted most l ∧ wr.ownsRow w.heap.size 3 1 v q (ints ((lastL l).take q)) ∧ Fr [] w wr

theorem take_next (l : List Int) (q : Nat) (x : Int) (h : l[q]? = some x) : l.take (q + 1) = l.take q ++ [x] := by
  have hlt := (List.getElem?_eq_some_iff.1 h).1
  rw [List.take_succ_eq_append_getElem hlt, (List.getElem?_eq_some_iff.1 h).2]

theorem rhistory_any (g b : Nat) (wanted most : Int) (l : List Int) (w : World) (h : RIs w g b wanted most l) (h1 : 1 ≤ l.length) (h2 : l.length ≤ 1000) :
    Calls Try.prog 19 #[.pointer (some ⟨g, 0, none⟩)] w (IntsBack (lastL l) w) := by
  have h0 := Lib.hid h
  have HREL : Hid (RelH w g b wanted most l 0 (.slice none 0 0) w) := ⟨h, by simpa [ints] using World.ownsRow_nil w w.heap.size 3 1, Fr.refl _ _⟩
  obtain ⟨cap, hb, ho⟩ := h
  have hc2 : w.cell? ⟨g, 2, none⟩ = some (.slice (some ⟨b, 0, none⟩) l.length cap) := hb.cell 2
  obtain ⟨s, d, hsd, hs, hd⟩ : ∃ s d : Nat, s + 16 = l.length + d ∧ Hid (s = l.length - 16) ∧ (0 < s → d = 0) := ⟨l.length - 16, 16 - l.length, by omega, rfl, by omega⟩
  have HSD := Lib.hid hsd
  have hsd1 : s + 16 ≤ l.length + d := by omega
  have hsd2 : l.length + d ≤ s + 16 := by omega
  have HD := Lib.hid hd
  clear hb ho hsd hd
  obtain ⟨i0, hi, hz0, hz1, hz2⟩ := info_parts int_info
  go_enter Try.func19, Try.ntmps19
  go_wp2
  go_loopw [3, 4] (fun v i wr => ∃ k : Nat, k ≤ 16 ∧ i = .int .i64 ((l.length : Int) - 16 + (k : Int)) ∧ RelH w g b wanted most l (k - d) v wr) (fun _ i _ => (1000 - intOf i).toNat)
  case atStart => exact ⟨0, by omega, by simp, by simpa using HREL.out⟩
  case round =>
    obtain ⟨k, hk, rfl, hRI, hown, hfr⟩ := hrel
    have HR := Lib.hid hRI
    have HO := Lib.hid hown
    have HF := Lib.hid hfr
    clear hRI hown hfr hc2
    obtain ⟨cap2, hb, ho⟩ := HR.out
    have hc2 : wr.cell? ⟨g, 2, none⟩ = some (.slice (some ⟨b, 0, none⟩) l.length cap2) := hb.cell 2
    have HB := Lib.hid hb
    have HOO := Lib.hid ho
    clear hb ho
    by_cases hlt : k < 16
    · by_cases hneg : k < d
      · have HS := HD.out
        go_wp2
        go_roundw
        case rel => exact ⟨k + 1, by omega, by go_num, by
          rw [show k + 1 - d = k - d from by omega]
          exact ⟨HR.out, HO.out, HF.out⟩⟩
        case measure => simp [intOf]; omega
      · obtain ⟨q, hq⟩ : ∃ q, k = q + d := ⟨k - d, by omega⟩
        subst hq
        rw [Nat.add_sub_cancel] at HO
        have hx : ∃ x, l[s + q]? = some x := ⟨_, List.getElem?_eq_getElem (by omega)⟩
        obtain ⟨x, hx⟩ := hx
        have hcx : wr.cell? ⟨b, s + q, none⟩ = some (.int .i64 x) := by
          rw [HOO.out.cellAt (s + q) (by omega), ints, List.getElem?_map, hx]
          rfl
        have HT : Hid ((lastL l).take (q + 1) = (lastL l).take q ++ [x]) := take_next _ _ _ (by
          rw [lastL, List.getElem?_drop, ← hs.out]
          exact hx)
        clear hx
        have hidx : (l.length : Int) - 16 + ((q + d : Nat) : Int) = ((s + q : Nat) : Int) := by have := HSD.out; omega
        rw [hidx]
        clear hidx
        go_wp2_with (at_builtin; refine wpList_append_lies _ rfl (.tmp 22) (.tmp 30) _ rfl w.heap.size 3 i0 (.int .i64 0) 1 8 Try.underlying44 hi hz0 hz1 hz2 rfl (by decide) _ q (ints ((lastL l).take q)) rfl (HO.out.alloc _) ⟨wr.heap.size, 0, none⟩ 1 1 [.int .i64 x] rfl rfl (cell_one_new _ _ _) ?c2 (by decide) ?c3 ?c4 ?c5 _ rfl ?c6)
        case c2 => simp [Value.oneCell']
        case c3 => unfold maxLen; omega
        case c4 => omega
        case c5 => have := HF.out.size; simp; omega
        case c6 =>
          intro b' cap' w2 hown2 hgrow hat hlt'
          have HO2 : Hid (w2.ownsRow w.heap.size 3 1 (.slice (some ⟨b', 0, none⟩) (q + 1) cap') (q + 1) (ints ((lastL l).take (q + 1)))) := by
            rw [HT.out]
            simpa [ints, Hid] using hown2
          have HF2 : Hid (Fr [] w w2) := (HF.out.alloc _).grown hgrow (fun j hj => .inr ((HO.out.lt j hj).1))
          have HR2 : Hid (RIs w2 g b wanted most l) := h0.out.fr HF2.out (by simp) (by simp)
          clear hown2 hgrow hat
          go_wp2
          go_roundw
          case rel => exact ⟨q + d + 1, by omega, by have := HSD.out; go_num; try omega, by
            rw [show q + d + 1 - d = q + 1 from by omega]
            exact ⟨HR2.out, HO2.out, HF2.out⟩⟩
          case measure => simp [intOf]; omega
    · have hk16 : k = 16 := by omega
      subst hk16
      go_wp2
      go_ret
      have hll : (lastL l).length = 16 - d := by rw [lastL, List.length_drop]; have e1 := HSD.out; have e2 := HD.out; have e3 := hs.out; omega
      have htk : (lastL l).take (16 - d) = lastL l := List.take_of_length_le (by omega)
      have hO := HO.out
      rw [htk] at hO
      obtain ⟨A, n, c, rfl⟩ : ∃ A n c, u3 = .slice A n c := by
        rcases hO.2 with ⟨rfl, _⟩ | ⟨_, _, _, rfl, _⟩
        · exact ⟨_, _, _, rfl⟩
        · exact ⟨_, _, _, rfl⟩
      have hn : n = 16 - d := by
        rcases hO.2 with ⟨he, h0'⟩ | ⟨_, _, _, he, _⟩
        · injection he with _ e2 _
          omega
        · injection he
      subst hn
      obtain ⟨_, hR⟩ := RdI.own (l := lastL l) hO
      refine ⟨A, c, by rw [hll]; rfl, hR, ?_, HF.out⟩
      intro a ha
      subst ha
      exact (hO.lt a.block rfl).1
end Go.Proofs.Ytkldeichodogdaa
