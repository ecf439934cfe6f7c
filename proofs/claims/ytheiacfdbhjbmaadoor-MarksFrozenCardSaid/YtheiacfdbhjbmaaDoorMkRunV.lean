/-
  Marks: Runs' closure, where what always holds counts the rounds.
-/
import Derived.Test.YtheiacfdbhjbmaaDoorMkRun3
namespace Go.Proofs.YtheiacfdbhjbmaaDoor
open Go.RowKit Go.Shelf Mk
set_option linter.unusedVariables false
attribute [local go_sem] Oper.semAt_some

/-- What the caller's function must do with a run: V always holds; where the run is the one that comes next, U (go on) or Ux (left). -/
def UsrV (f : Nat → Bool) (size : Nat) (T : List Nat) (n₀ : Nat) (V U Ux : Nat → World → Prop) (x i : Nat) (W : World) (e : Ending) (W' : World) : Prop :=
  ∃ b : Bool, e = .returned (.bool b) ∧ V (i + 1) W' ∧ Kb n₀ T W W' ∧ KeepsFrom n₀ W W' ∧ ((begs f size)[i]? = some x → U i W → (b = true → U (i + 1) W') ∧ (b = false → Ux (i + 1) W'))

def RunsOkV (f : Nat → Bool) (size : Nat) (T : List Nat) (V U Ux : Nat → Nat → World → Prop) (w : World) (e : Ending) (W' : World) : Prop :=
  e = .returned (.tuple #[]) ∧ Kb w.heap.size T w W' ∧ ∃ n₀, w.heap.size ≤ n₀ ∧ ((V n₀ (begs f size).length W' ∧ U n₀ (begs f size).length W') ∨ ∃ i, i ≤ (begs f size).length ∧ V n₀ i W' ∧ Ux n₀ i W')

/-- Between two rounds; where a round has left. -/
def RIV (f : Nat → Bool) (size : Nat) (T : List Nat) (n₀ : Nat) (V U : Nat → Nat → World → Prop) (z1 : World) (pre : List (Mkd f size)) (W : World) : Prop :=
  V n₀ pre.length W ∧ Kb n₀ T z1 W ∧ (pre.map (fun x => x.1) <+: begs f size → U n₀ pre.length W)
theorem ri_ownV {f : Nat → Bool} {size : Nat} {T : List Nat} {n₀ : Nat} {V U : Nat → Nat → World → Prop} {z1 : World} (hV : Own (V n₀)) (hU : Own (U n₀)) : OwnFrom n₀ (RIV f size T n₀ V U z1) :=
  fun s A B row hs hg hr => ⟨hV _ A B row hs.1 hg (fun r e => (hr r e).2), hs.2.1.trans (kb_of_grown hg (fun r e => (hr r e).1)), fun hp => hU _ A B row (hs.2.2 hp) hg (fun r e => (hr r e).2)⟩
def RIxV (f : Nat → Bool) (size : Nat) (T : List Nat) (n₀ : Nat) (V U : Nat → Nat → World → Prop) (z1 : World) (c : Code) (pre : List (Mkd f size)) (W : World) : Prop := c = .ret ∧ RIV f size T n₀ V U z1 pre W
theorem rix_ownV {f : Nat → Bool} {size : Nat} {T : List Nat} {n₀ : Nat} {V U : Nat → Nat → World → Prop} {z1 : World} (hV : Own (V n₀)) (hU : Own (U n₀)) (c : Code) : OwnFrom n₀ (RIxV f size T n₀ V U z1 c) :=
  fun s A B row hs hg hr => ⟨hs.1, ri_ownV hV hU s A B row hs.2 hg hr⟩

set_option maxRecDepth 100000 in
set_option maxHeartbeats 2000000 in
theorem runs1_inV (n : Nat) (hn : 3 ≤ n) (g gb bm gy size : Nat) (caps : Array Value) (f : Nat → Bool) (w : World) (hM : MapIs w g gb size f) (hO : On w) (hbm : w.cell? ⟨bm, 0, none⟩ = some (.pointer (some ⟨g, 0, none⟩)))
    (T : List Nat) (hT : ∀ x ∈ T, x < w.heap.size) (hTg : g ∉ T) (hTb : bm ∉ T) (eg : ∀ args w, (callFunc gy args).run Tryd.prog w = .ok (.enter gy args) w)
    (V U Ux : Nat → Nat → World → Prop) (hV : ∀ n₀, Own (V n₀)) (hU : ∀ n₀, Own (U n₀)) (hUx : ∀ n₀, Own (Ux n₀)) (hV0 : ∀ n₀ W, w.heap.size ≤ n₀ → n₀ ≤ W.heap.size → Fr [] w W → V n₀ 0 W) (hU0 : ∀ n₀ W, w.heap.size ≤ n₀ → Fr [] w W → U n₀ 0 W)
    (hY : ∀ n₀ x i W, w.heap.size ≤ n₀ → i ≤ size → x < size → f x = true → V n₀ i W → Calls Tryd.prog gy (#[.int .i64 (x : Nat), .int .i64 ((endN f size x - x : Nat) : Int)] ++ caps) W (UsrV f size T n₀ (V n₀) (U n₀) (Ux n₀) x i W)) :
    CallsIn Fence.wide n Tryd.prog 38 #[.func (.func gy) #[] caps, .pointer (some ⟨bm, 0, none⟩)] w (RunsOkV f size T V U Ux w) := by
  refine callsIn_of_wp_marks Tryd.func38 rfl trivial ?_ rfl
  simp only [Tryd.ntmps38, List.size_toArray, List.length_cons, List.length_nil, Nat.reduceAdd, Nat.reduceSub, Array.replicate_succ, Array.replicate_zero, List.push_toArray, List.append_toArray, List.nil_append, List.cons_append]
  have c1 : w.cell? ⟨g, 1, none⟩ = some (.slice (some ⟨gb, 0, none⟩) (nums size) (nums size)) := hM.B.cell 1
  have c0 : w.cell? ⟨g, 0, none⟩ = some (.int .i64 size) := hM.B.cell 0
  have HM := Lib.hid hM
  have HO := Lib.hid hO
  clear hM hO
  refine wpIn_wide.2 ?_
  go_upto_region 1 with fail
  obtain ⟨w1, hw1⟩ : ∃ w1, w1 = w.alloc (.cells #[.func (.func gy) #[] caps] 44) := ⟨_, rfl⟩
  have hf1 : Fr [] w w1 := by rw [hw1]; exact (Fr.refl _ _).alloc _
  have HBX : Hid (Bk w1 w.heap.size 44 #[.func (.func gy) #[] caps]) := by rw [hw1]; exact Bk.new _ _ _
  have HF1 := Lib.hid hf1
  have HM1 := Lib.hid (HM.out.fr hf1 (by simp) (by simp))
  have hbl := block_lt_of_cell hbm
  have hbm1 : w1.cell? ⟨bm, 0, none⟩ = some (.pointer (some ⟨g, 0, none⟩)) := (World.cell?_of_block (hf1.block bm hbl (by simp))).trans hbm
  have c11 : w1.cell? ⟨g, 1, none⟩ = some (.slice (some ⟨gb, 0, none⟩) (nums size) (nums size)) := HM1.out.B.cell 1
  rw [← hw1]
  clear hw1 hf1 c1 c0
  obtain ⟨cs, hcs, hcz⟩ := HM1.out.W
  have HC := Lib.hid (And.intro hcs hcz)
  clear hcs hcz
  go_wp2_with fail
  have hms : nums size ≤ 65536 := by have := HM1.out.most; unfold nums; omega
  refine (clone_any gb (nums size) cs w1 HC.out.1 HC.out.2 hms (fun u hu => by
    obtain ⟨i, hi⟩ := List.getElem?_of_mem hu
    have hi' : i < nums size := by
      have := (List.getElem?_eq_some_iff.1 hi).1
      have h2 := HC.out.2
      simp at this
      omega
    obtain ⟨x, hx, _⟩ := HM1.out.V.wd i hi'
    rw [HC.out.1.cell i] at hx
    simp at hi
    rw [hi] at hx
    injection hx with hx
    rw [hx]
    rfl)).mono ?_
  rintro e w2 ⟨b, cap, cs', rfl, hb, hcap, hcm, hB, hsz, hcp, hf2⟩
  have HM2 := Lib.hid (HM1.out.fr hf2 (by simp) (by simp))
  have HF2 := Lib.hid (HF1.out.trans hf2 (by simp))
  have HBX2 := Lib.hid (HBX.out.fr hf2 (by simp))
  have HWS : Hid (Ws w2 b (nums size) f) := ⟨hB.lt, fun i hi => by
    obtain ⟨x, hx, hw⟩ := HM1.out.V.wd i hi
    refine ⟨x, ?_, hw⟩
    rw [hB.cell i, hcp i hi, ← HC.out.1.cell i]
    exact hx⟩
  have HBL : Hid (w1.heap.size ≤ b) := hb
  have hq7 := HF1.out.size
  have hq8 := hf2.size
  clear hb hcap hB hsz hcp hf2 HM1 HF1 HBX hbm1 c11
  go_upto_region 2 with fail
  obtain ⟨z, hz⟩ : ∃ z, z = (w2.alloc (.cells #[.slice (some ⟨b, 0, none⟩) (nums size) cap] 54)).drew := ⟨_, rfl⟩
  have hfz : Fr [] w2 z := by rw [hz]; exact ((Fr.refl _ _).alloc _).drew
  have hzb : z.heap.size = w2.heap.size + 1 := by rw [hz]; simp
  have hBB : Bk z w2.heap.size 54 #[.slice (some ⟨b, 0, none⟩) (nums size) cap] := by rw [hz]; exact (Bk.new _ _ _).drew
  have HZ := Lib.hid hz
  have HMz := Lib.hid (HM2.out.fr hfz (by simp) (by simp))
  have HFz := Lib.hid (HF2.out.trans hfz (by simp))
  have HBXz := Lib.hid (HBX2.out.fr hfz (by simp))
  have HWSz := Lib.hid (HWS.out.fr hfz (by simp))
  have HBB := Lib.hid hBB
  have e1 : z.cell? ⟨w2.heap.size, 0, none⟩ = some (.slice (some ⟨b, 0, none⟩) (nums size) cap) := hBB.cell 0
  have e2 : z.cell? ⟨bm, 0, none⟩ = some (.pointer (some ⟨g, 0, none⟩)) := (World.cell?_of_block (HFz.out.block bm hbl (by simp))).trans hbm
  have e3 : z.cell? ⟨g, 0, none⟩ = some (.int .i64 size) := HMz.out.B.cell 0
  clear hz hfz hBB HM2 HF2 HBX2 HWS
  refine wp_region_still_tail 5 (by kernel_rfl) (by kernel_rfl) ?_
  change wpStill _ _ (w2.alloc (.cells #[.slice (some ⟨b, 0, none⟩) (nums size) cap] 54)).drew _ _ _
  rw [← HZ.out]
  simp only [List.take_succ_cons, List.take_zero, List.drop_succ_cons, List.drop_zero]
  repeat still_step
  refine wpStill_nil ?_
  change wpList _ _ _ _ _ (w2.alloc (.cells #[.slice (some ⟨b, 0, none⟩) (nums size) cap] 54)).drew
  rw [← HZ.out]
  go_wp2_with fail
  refine (begins_any b (nums size) cap size z).mono ?_
  rintro e z1 ⟨rfl, hz1⟩
  have hf1 : Fr [] z z1 := by rw [hz1]; exact ((Fr.refl _ _).alloc _).alloc _
  have HB1 : Hid (Bk z1 z.heap.size 54 #[.slice (some ⟨b, 0, none⟩) (nums size) cap]) := by rw [hz1]; exact (Bk.new _ _ _).alloc _
  have HB2 : Hid (Bk z1 (z.heap.size + 1) 3 #[.int .i64 size]) := by rw [hz1]; exact Bk.new_at _ _ _ _ (by simp)
  have HM1 := Lib.hid (HMz.out.fr hf1 (by simp) (by simp))
  have HF1 := Lib.hid (HFz.out.trans hf1 (by simp))
  have HBX1 := Lib.hid (HBXz.out.fr hf1 (by simp))
  have HWS1 := Lib.hid (HWSz.out.fr hf1 (by simp))
  have HBB1 := Lib.hid (HBB.out.fr hf1 (by simp))
  have HZ1 : Hid (z1.heap.size = z.heap.size + 2) := by show z1.heap.size = z.heap.size + 2; rw [hz1]; simp
  clear hz1 hf1 e1 e2 e3 HMz HFz HBXz HWSz HBB
  go_wp2_with fail
  have HVV := Lib.hid hV
  have HUU := Lib.hid hU
  have HUX := Lib.hid hUx
  have HV0 := Lib.hid (hV0 z1.heap.size z1 HF1.out.size (Nat.le_refl _) HF1.out)
  have HU0 := Lib.hid (hU0 z1.heap.size z1 HF1.out.size HF1.out)
  have HYY := Lib.hid hY
  have HTT := Lib.hid hT
  clear hV hU hUx hV0 hU0 hY hT
  have q1 := HF1.out.size
  have q2 := HZ1.out
  have q3 := HBB1.out.lt
  have q4 := HBL.out
  have q5 := HBX1.out.lt
  have q6 := HWS1.out.lt
  have hnT : ∀ k, w.heap.size ≤ k → k ∉ T := fun k hk hx => by have := HTT.out k hx; omega
  refine (wpIn_wide (n := n)).1 ?_
  refine wpIn_rangeFunc_ownG (encs := fun x : Mkd f size => #[.int .i64 (x.1 : Nat)]) rfl (by omega) (gf := 45) (lb := #[.pointer (some ⟨w2.heap.size + 1, 0, none⟩), .pointer (some ⟨w2.heap.size + 1 + 1, 0, none⟩)]) rfl trivial
    (enters_of Tryd.func45 (by kernel_rfl) rfl)
    (begins_stops (n - 1) (by omega) (w2.heap.size + 1) (w2.heap.size + 1 + 1) z1.heap.size b (nums size) cap size T f hms (by unfold nums; omega) HM1.out.none (by omega) (by omega) q6 (hnT _ ?_) (hnT _ ?_) (hnT _ ?_) z1 rfl ?_ ?_ HWS1.out)
    (fun h k => h.trans k) (fun W l o o' hl h _ _ => kb_of_grown (grownBy_putObj' W l o') (fun r e => by cases e; exact hl)) (Below.refl _ _) (fun _ => rfl)
    (RIV f size T z1.heap.size V U z1) (RIxV f size T z1.heap.size V Ux z1) (ri_ownV (HVV.out _) (HUU.out _)) (rix_ownV (HVV.out _) (HUX.out _))
    ⟨HV0.out, Kb.refl _ _ _, fun _ => HU0.out⟩
    (fun x => { tmps := #[.func (.func gy) #[] caps, .pointer (some ⟨bm, 0, none⟩), .pointer (some ⟨w.heap.size, 0, none⟩), .pointer (some ⟨w2.heap.size, 0, none⟩), .int .i64 (x.1 : Nat), undef, .pointer (some ⟨g, 0, none⟩), .pointer (some ⟨g, 0, none⟩), .pointer (some ⟨g, 1, none⟩),
      .slice (some ⟨gb, 0, none⟩) (nums size) (nums size), .slice (some ⟨b, 0, none⟩) (nums size) cap, .slice (some ⟨b, 0, none⟩) (nums size) cap, .pointer (some ⟨g, 0, none⟩), .pointer (some ⟨g, 0, none⟩), .pointer (some ⟨g, 0, none⟩), .int .i64 size,
      .func (.func 45) #[] #[.pointer (some ⟨w2.heap.size + 1, 0, none⟩), .pointer (some ⟨w2.heap.size + 1 + 1, 0, none⟩)], .int .i64 (x.1 : Nat), undef, undef, undef, undef, undef, undef, undef, undef, undef, undef, undef, undef, undef, undef, undef, undef, undef, undef, undef, undef, undef], defers := [] })
    ?assign ?body ?done ?stop
  case assign =>
    intro l x W K hK
    gi_wp2
    exact hK
  case body =>
    rintro l pre x W hI hlen
    have hpl : pre.length ≤ size := by omega
    have HI := Lib.hid hI
    have hk := hI.2.1
    have k1 := hk.cell (p := ⟨bm, 0, none⟩) (by show bm < z1.heap.size; omega) (by show bm < z1.heap.size; omega) hTb (show z1.cell? ⟨bm, 0, none⟩ = some (.pointer (some ⟨g, 0, none⟩)) from (World.cell?_of_block (HF1.out.block bm hbl (by simp))).trans hbm)
    have k2 := hk.cell (p := ⟨g, 0, none⟩) HM1.out.B.lt HM1.out.B.lt hTg (HM1.out.B.cell 0)
    have k3 := hk.cell (p := ⟨w2.heap.size, 0, none⟩) q3 q3 (hnT _ (by show w.heap.size ≤ w2.heap.size; omega)) (HBB1.out.cell 0)
    have k4 := hk.cell (p := ⟨w.heap.size, 0, none⟩) q5 q5 (hnT _ (Nat.le_refl _)) (HBX1.out.cell 0)
    have HWW := Lib.hid (HWS1.out.kb hk q6 (hnT _ (by omega)))
    clear hI hk
    obtain ⟨x, hxs, hxf⟩ := x
    have HXF := Lib.hid hxf
    have h11 : 1 ≤ n - 1 - 1 := by omega
    have hx1 : (x : Int) < (size : Int) := by omega
    have hsz := HM1.out.most
    gi_wp2
    gi_loopw [5] (fun v wr => ∃ y : Nat, v = .int .i64 y ∧ x ≤ y ∧ y ≤ size ∧ Hid (∀ j, x ≤ j → j < y → f j = true) ∧ W = wr) (fun v _ => size - (intOf v).toNat)
    case atStart => exact ⟨x, rfl, Nat.le_refl _, Nat.le_of_lt hxs, fun j h1 h2 => by omega, rfl⟩
    case round =>
      obtain ⟨y, rfl, hy1, hy2, HE, rfl⟩ := hrel
      by_cases hys : y < size
      · have hys' : (y : Int) < (size : Int) := by omega
        have hh := has_any b (nums size) cap y f W hms (by unfold nums; omega) HWW.out
        obtain ⟨fy, hfy⟩ : ∃ fy, f y = fy := ⟨_, rfl⟩
        rw [hfy] at hh
        have HFY := Lib.hid hfy
        have HH := Lib.hid hh
        clear hfy hh
        cases fy with
        | true =>
          gi_wp2_with (refine ⟨trivial, ?_⟩; gi_at_call 36; refine (CallsIn.inRound l (callsIn_wide.2 HH.out)).mono ?_; rintro e w' ⟨rfl, rfl⟩)
          go_roundw
          case rel =>
            refine ⟨y + 1, by go_num, by omega, by omega, ?_, by first | rfl | trivial⟩
            show ∀ j, x ≤ j → j < y + 1 → f j = true
            intro j h1 h2
            by_cases hj : j = y
            · subst hj; exact HFY.out
            · exact HE.out j h1 (by omega)
          case measure => simp [intOf]; omega
        | false =>
          have he := endN_eq (f := f) (size := size) hy1 hy2 HE.out (fun _ => HFY.out)
          have HEN := Lib.hid he
          clear he
          gi_wp2_with (refine ⟨trivial, ?_⟩; gi_at_call 36; refine (CallsIn.inRound l (callsIn_wide.2 HH.out)).mono ?_; rintro e w' ⟨rfl, rfl⟩)
          have hyx : (y : Int) - (x : Int) = ((endN f size x - x : Nat) : Int) := by have := HEN.out; omega
          rw [hyx]
          refine ⟨trivial, (CallsIn.inRound l (callsIn_wide.2 (HYY.out z1.heap.size x pre.length W q1 (by omega) hxs hxf HI.out.1))).mono ?_⟩
          rintro e W' ⟨bb, rfl, hv, hkb, hkf, hu⟩
          cases bb with
          | true =>
            gi_wp2
            refine ⟨hkf, hkb, by rw [List.length_append]; exact hv, HI.out.2.1.trans hkb, fun hp => ?_⟩
            obtain ⟨p1, p2⟩ := pre_next hp
            rw [List.length_append]
            exact (hu p2 (HI.out.2.2 p1)).1 (by trivial)
          | false =>
            gi_wp2
            refine ⟨hkf, rfl, by rw [List.length_append]; exact hv, HI.out.2.1.trans hkb, fun hp => ?_⟩
            obtain ⟨p1, p2⟩ := pre_next hp
            rw [List.length_append]
            exact (hu p2 (HI.out.2.2 p1)).2 (by trivial)
      · have hys' : ¬ (y : Int) < (size : Int) := by omega
        have he := endN_eq (f := f) (size := size) hy1 hy2 HE.out (fun h => absurd h hys)
        have HEN := Lib.hid he
        clear he
        gi_wp2
        refine ⟨trivial, ?_⟩
        gi_wp2
        have hyx : (y : Int) - (x : Int) = ((endN f size x - x : Nat) : Int) := by have := HEN.out; omega
        rw [hyx]
        first | refine ⟨trivial, (CallsIn.inRound l (callsIn_wide.2 (HYY.out z1.heap.size x pre.length W q1 (by omega) hxs hxf HI.out.1))).mono ?_⟩ | refine (CallsIn.inRound l (callsIn_wide.2 (HYY.out z1.heap.size x pre.length W q1 (by omega) hxs hxf HI.out.1))).mono ?_
        rintro e W' ⟨bb, rfl, hv, hkb, hkf, hu⟩
        cases bb with
        | true =>
          gi_wp2
          refine ⟨hkf, hkb, by rw [List.length_append]; exact hv, HI.out.2.1.trans hkb, fun hp => ?_⟩
          obtain ⟨p1, p2⟩ := pre_next hp
          rw [List.length_append]
          exact (hu p2 (HI.out.2.2 p1)).1 (by trivial)
        | false =>
          gi_wp2
          refine ⟨hkf, rfl, by rw [List.length_append]; exact hv, HI.out.2.1.trans hkb, fun hp => ?_⟩
          obtain ⟨p1, p2⟩ := pre_next hp
          rw [List.length_append]
          exact (hu p2 (HI.out.2.2 p1)).2 (by trivial)
  case done =>
    rintro D xs W hD hS hI hK
    gi_wp2
    refine ⟨by simp, .inl ⟨_, _, rfl, run_takeDeferred hK, ?_⟩⟩
    have hg := grownBy_putObj' W D (.deferred none)
    have hnc : ∀ r, some D = some r → ∃ o : Obj, W.heap[r]? = some o ∧ o.isCells = false := fun r e => by cases e; exact ⟨_, hK, rfl⟩
    have hlen : xs.length = (begs f size).length := by rw [← hS]; simp
    refine ⟨_, results_none rfl _ _ _, rfl, ?_, z1.heap.size, q1, .inl ⟨by rw [← hlen]; exact HVV.out _ _ _ _ _ hI.1 hg hnc, ?_⟩⟩
    · exact (HF1.out.kb (by simp)).trans ((hI.2.1.mono q1).trans (kb_of_grown hg (fun r e => by cases e; omega)))
    · rw [← hlen]
      exact HUU.out _ _ _ _ _ (hI.2.2 (by rw [hS]; exact List.prefix_refl _)) hg hnc
  case stop =>
    rintro D c pre W hD hS hI hK
    obtain ⟨rfl, hI⟩ := hI
    gi_wp2
    refine ⟨by simp, .inl ⟨_, _, rfl, run_takeDeferred hK, ?_⟩⟩
    have hg := grownBy_putObj' W D (.deferred none)
    have hnc : ∀ r, some D = some r → ∃ o : Obj, W.heap[r]? = some o ∧ o.isCells = false := fun r e => by cases e; exact ⟨_, hK, rfl⟩
    refine ⟨_, results_none rfl _ _ _, rfl, ?_, z1.heap.size, q1, .inr ⟨pre.length, ?_, HVV.out _ _ _ _ _ hI.1 hg hnc, ?_⟩⟩
    · exact (HF1.out.kb (by simp)).trans ((hI.2.1.mono q1).trans (kb_of_grown hg (fun r e => by cases e; omega)))
    · have := hS.length_le
      simpa using this
    · exact HUX.out _ _ _ _ _ (hI.2.2 hS) hg hnc
  · omega
  · omega
  · omega
  · rw [← hzb]; exact HB1.out.cell 0
  · rw [← hzb]; exact HB2.out.cell 0

theorem runs1_anyV (g gb bm gy size : Nat) (caps : Array Value) (f : Nat → Bool) (w : World) (hM : MapIs w g gb size f) (hO : On w) (hbm : w.cell? ⟨bm, 0, none⟩ = some (.pointer (some ⟨g, 0, none⟩)))
    (T : List Nat) (hT : ∀ x ∈ T, x < w.heap.size) (hTg : g ∉ T) (hTb : bm ∉ T) (eg : ∀ args w, (callFunc gy args).run Tryd.prog w = .ok (.enter gy args) w)
    (V U Ux : Nat → Nat → World → Prop) (hV : ∀ n₀, Own (V n₀)) (hU : ∀ n₀, Own (U n₀)) (hUx : ∀ n₀, Own (Ux n₀)) (hV0 : ∀ n₀ W, w.heap.size ≤ n₀ → n₀ ≤ W.heap.size → Fr [] w W → V n₀ 0 W) (hU0 : ∀ n₀ W, w.heap.size ≤ n₀ → Fr [] w W → U n₀ 0 W)
    (hY : ∀ n₀ x i W, w.heap.size ≤ n₀ → i ≤ size → x < size → f x = true → V n₀ i W → Calls Tryd.prog gy (#[.int .i64 (x : Nat), .int .i64 ((endN f size x - x : Nat) : Int)] ++ caps) W (UsrV f size T n₀ (V n₀) (U n₀) (Ux n₀) x i W)) :
    Calls Tryd.prog 38 #[.func (.func gy) #[] caps, .pointer (some ⟨bm, 0, none⟩)] w (RunsOkV f size T V U Ux w) :=
  callsIn_wide.1 (runs1_inV 3 (Nat.le_refl _) g gb bm gy size caps f w hM hO hbm T hT hTg hTb eg V U Ux hV hU hUx hV0 hU0 hY)
end Go.Proofs.YtheiacfdbhjbmaaDoor
