/-
  Roots: the document's New.
-/
import Derived.Test.YtdjemkgnhohcdaaRt1
import Derived.Deep.AppendLies
namespace Go.Proofs.Ytdjemkgnhohcdaa
open Go.RowKit
set_option linter.unusedVariables false

theorem thread_info : (Try.prog.info? 73).map (fun i => (i.zero, i.size, i.bytes)) = some (some (.agg #[.slice none 0 0, .slice none 0 0]), 2, 48) := by kernel_rfl

theorem rnew_bad (T S H : Int) (w : World) (h : ¬ okNew T S H) :
    Calls Try.prog 9 #[.int .i64 T, .int .i64 S, .int .i64 H] w fun e w' => e = .returned (.tuple #[.pointer none, .int .i64 50]) ∧ w = w' := by
  unfold okNew at h
  go_enter Try.func9, Try.ntmps9
  go_upto_region 3 with fail
  all_goals first | (go_ret2; exact ⟨rfl, rfl⟩) | (exfalso; omega)

/-- The document's roots while they are made: k threads, j handles. -/
def RMade (W0 : World) (S k j : Nat) (g : Nat) (w : World) : Prop :=
  ∃ tv hv, Bk w g 71 #[tv, .int .i64 S, hv, .slice none 0 0] ∧ Lst w W0.heap.size 73 2 tv k (List.replicate (k * 2) (.slice none 0 0)) ∧ Lst w W0.heap.size 3 1 hv j (List.replicate j (.int .i64 (-1))) ∧ Fr [] W0 w ∧ W0.heap.size ≤ g

set_option maxHeartbeats 1600000 in
theorem rnew_ok (T S H : Nat) (w : World) (hT : 1 ≤ T ∧ T ≤ 8) (hS : 1 ≤ S ∧ S ≤ 4096) (hH : H ≤ 1024) :
    Calls Try.prog 9 #[.int .i64 T, .int .i64 S, .int .i64 H] w fun e w' => ∃ g, e = .returned (.tuple #[.pointer (some ⟨g, 0, none⟩), .int .i64 0]) ∧ RMade w S T H g w' := by
  obtain ⟨t1, t2⟩ := hT
  obtain ⟨s1, s2⟩ := hS
  obtain ⟨i1, hi1, hz1, hs1, hb1⟩ := info_parts thread_info
  obtain ⟨i2, hi2, hz2, hs2, hb2⟩ := info_parts int_info
  go_enter Try.func9, Try.ntmps9
  go_upto_region 5 with fail
  have HX : Hid (RMade w S 0 0 w.heap.size (w.alloc (.cells #[.slice none 0 0, .int .i64 S, .slice none 0 0, .slice none 0 0] 71))) :=
    ⟨_, _, Bk.new _ _ _, Lst.nil _ _ _ _, Lst.nil _ _ _ _, (Fr.refl _ _).alloc _, Nat.le_refl _⟩
  generalize hw1 : w.alloc (.cells #[.slice none 0 0, .int .i64 S, .slice none 0 0, .slice none 0 0] 71) = w1 at *
  generalize hg : w.heap.size = g at *
  have HG := Lib.hid hg
  clear hw1 hg
  go_loopw [9] (fun i wr => ∃ (k : Nat), k ≤ T ∧ i = .int .i64 k ∧ Hid (RMade w S k 0 g wr)) (fun i _ => T - (intOf i).toNat)
  case atStart => exact ⟨0, by omega, rfl, HX.out⟩
  case round =>
    obtain ⟨k, hk, rfl, hx⟩ := hrel
    obtain ⟨tv, hv, hb, ht, hh, hf, hg⟩ := hx.out
    have HB := Lib.hid hb
    have HT := Lib.hid ht
    have HH := Lib.hid hh
    have HF := Lib.hid hf
    have HGG := Lib.hid hg
    have hgl := hb.lt
    have HRX := Lib.hid hx.out
    clear hx hb ht hh hf hg HX
    by_cases hlt : k < T
    · have c0 : wr.cell? ⟨g, 0, none⟩ = some tv := HB.out.cell 0
      have fg := HB.out.free 0
      go_wp2_with (at_builtin; refine wpList_append_lst _ rfl (.tmp 45) (.tmp 47) _ rfl w.heap.size 73 i1 _ 2 48 Try.underlying69 hi1 hz1 hs1 hb1 rfl tv k (List.replicate (k * 2) (.slice none 0 0)) rfl (HT.out.fr ((Fr.refl [] _).alloc _) (by simp)) ⟨wr.heap.size, 0, none⟩ 1 1 [.slice none 0 0, .slice none 0 0] rfl rfl (World.news_of_block (heap_alloc_new _ _)) ?c2 ?c3 ?c4 ?c5 ?c6)
      case c2 => simp [Value.oneCell']
      case c3 => unfold maxLen; omega
      case c4 => omega
      case c5 => have := HF.out.size; simp; omega
      case c6 =>
        intro v2 w2 hown hgrow hat
        have HT2 : Hid (Lst w2 w.heap.size 73 2 v2 (k + 1) (List.replicate ((k + 1) * 2) (.slice none 0 0))) := by
          have e : List.replicate (k * 2) (Value.slice none 0 0) ++ [.slice none 0 0, .slice none 0 0] = List.replicate ((k + 1) * 2) (.slice none 0 0) := by
            rw [show [Value.slice none 0 0, .slice none 0 0] = List.replicate 2 (.slice none 0 0) from rfl, List.replicate_append_replicate]
            congr 1
            omega
          rw [e] at hown
          exact hown
        obtain ⟨A2, cap2, rfl, _, _⟩ := HT2.out.look
        have hfr : Fr tv.ownBlock.toList wr w2 := ((Fr.refl _ _).alloc _).grown hgrow (fun j hj => .inl (by simp [hj]))
        have HB2 := Lib.hid (HB.out.fr hfr (fun hx => HT.out.ne_bk HB.out (by decide) g (by simpa using hx) rfl))
        have HH2 := Lib.hid (HH.out.fr hfr (HH.out.ne_lst HT.out (by decide)))
        have HF2 := Lib.hid (HF.out.trans hfr (fun j hj => .inr ((HT.out.lt j (by simpa using hj)).1)))
        clear hown hgrow hat hfr
        have c0' : w2.cell? ⟨g, 0, none⟩ = some tv := HB2.out.cell 0
        have fg' := HB2.out.free 0
        clear c0 fg
        go_wp2
        go_roundw
        case rel => exact ⟨k + 1, by omega, by go_num, _, hv, HB2.out.put 0 _, HT2.out.far (HT2.out.ne_bk HB2.out (by decide)) _, HH2.out.far (HH2.out.ne_bk HB2.out (by decide)) _, HF2.out.setCell (.inr HGG.out) _, HGG.out⟩
        case measure => simp [intOf]; omega
    · have hkT : k = T := by omega
      rw [hkT] at HRX
      clear hkT HB HT HH HF HGG hgl
      go_upto_region 9 with fail
      go_loopw [10] (fun i wr => ∃ (k : Nat), k ≤ H ∧ i = .int .i64 k ∧ Hid (RMade w S T k g wr)) (fun i _ => H - (intOf i).toNat)
      case atStart => exact ⟨0, by omega, rfl, HRX.out⟩
      case round =>
        obtain ⟨q, hq, rfl, hx⟩ := hrel
        obtain ⟨tv, hv, hb, ht, hh, hf, hg⟩ := hx.out
        have HB := Lib.hid hb
        have HT := Lib.hid ht
        have HH := Lib.hid hh
        have HF := Lib.hid hf
        have HGG := Lib.hid hg
        have hgl := hb.lt
        have HRY := Lib.hid hx.out
        clear hx hb ht hh hf hg HRX
        by_cases hlt : q < H
        · have c0 : wr.cell? ⟨g, 2, none⟩ = some hv := HB.out.cell 2
          have fg := HB.out.free 2
          go_wp2_with (at_builtin; refine wpList_append_lst _ rfl (.tmp 60) (.tmp 61) _ rfl w.heap.size 3 i2 _ 1 8 Try.underlying31 hi2 hz2 hs2 hb2 rfl hv q (List.replicate q (.int .i64 (-1))) rfl (HH.out.alloc _) ⟨wr.heap.size, 0, none⟩ 1 1 [.int .i64 (-1)] rfl rfl (World.news_of_block (heap_alloc_new _ _)) ?c2 ?c3 ?c4 ?c5 ?c6)
          case c2 => simp [Value.oneCell']
          case c3 => unfold maxLen; omega
          case c4 => omega
          case c5 => have := HF.out.size; simp; omega
          case c6 =>
            intro v2 w2 hown hgrow hat
            have HH2 : Hid (Lst w2 w.heap.size 3 1 v2 (q + 1) (List.replicate (q + 1) (.int .i64 (-1)))) := by
              rw [List.replicate_succ']
              exact hown
            obtain ⟨A2, cap2, rfl, _, _⟩ := HH2.out.look
            have hfr : Fr hv.ownBlock.toList wr w2 := ((Fr.refl _ _).alloc _).grown hgrow (fun j hj => .inl (by simp [hj]))
            have HB2 := Lib.hid (HB.out.fr hfr (fun hx => HH.out.ne_bk HB.out (by decide) g (by simpa using hx) rfl))
            have HT2 := Lib.hid (HT.out.fr hfr (HT.out.ne_lst HH.out (by decide)))
            have HF2 := Lib.hid (HF.out.trans hfr (fun j hj => .inr ((HH.out.lt j (by simpa using hj)).1)))
            clear hown hgrow hat hfr
            have c0' : w2.cell? ⟨g, 2, none⟩ = some hv := HB2.out.cell 2
            have fg' := HB2.out.free 2
            clear c0 fg
            go_wp2
            go_roundw
            case rel => exact ⟨q + 1, by omega, by go_num, tv, _, HB2.out.put 2 _, HT2.out.far (HT2.out.ne_bk HB2.out (by decide)) _, HH2.out.far (HH2.out.ne_bk HB2.out (by decide)) _, HF2.out.setCell (.inr HGG.out) _, HGG.out⟩
            case measure => simp [intOf]; omega
        · have hqH : q = H := by omega
          rw [hqH] at HRY
          clear hqH HB HT HH HF HGG hgl
          go_wp2_with fail
          go_ret2
          exact ⟨g, rfl, HRY.out⟩
end Go.Proofs.Ytdjemkgnhohcdaa
