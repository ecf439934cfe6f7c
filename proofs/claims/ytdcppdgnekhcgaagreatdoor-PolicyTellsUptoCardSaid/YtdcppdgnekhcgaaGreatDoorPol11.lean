/-
  The document's turn: Next.
-/
import Derived.Test.YtdcppdgnekhcgaaGreatDoorPol10
import Derived.StillTailTactics
import Derived.Deep.DeepCutAuto
import Derived.Laws.Tables
namespace Go.Proofs.YtdcppdgnekhcgaaGreatDoor
open Go.RowKit Pol
set_option maxRecDepth 100000
set_option linter.unusedVariables false

theorem Bk.row {w : World} {g : Nat} {t : TypeId} {cs : Array Value} (h : Bk w g t cs) (cs' : Array Value) : Bk (w.setRow g cs') g t cs' := setRow_heap w g cs cs' t (0, 0) h
theorem Fr.row {S : List Nat} {a b : World} (h : Fr S a b) {g : Nat} (hg : g ∈ S ∨ a.heap.size ≤ g) (cs : Array Value) : Fr S a (b.setRow g cs) :=
  ⟨h.os, h.tape, h.output, by simpa [World.setRow] using h.size, fun k hk hn => by
    have hne : g ≠ k := by rintro rfl; rcases hg with e | e; exact hn e; omega
    have : (b.setRow g cs).heap[k]? = b.heap[k]? := by simp [World.setRow, Array.getElem?_modify, hne]
    exact this.trans (h.block k hk hn)⟩

/-- Where the document's turn stands, as a phase. -/
def rph (c : Nat → Int) (kind words : Int) (cl ov : Bool) : Ph := if ov then .fin else if cl then .closing else phOf c kind words

/-- The document's turn, whole. -/
structure RT (w : World) (g : Nat) (c : Nat → Int) (kind words first most : Int) (s : St) (l : List Int) (cl ov : Bool) (rv : Value) : Prop where
  R : RB w g c kind words first most l cl ov rv
  ok : Ok s l
  ph : s.ph = rph c kind words cl ov
  co : ov = true → cl = true
  kd : 1 ≤ kind ∧ kind ≤ 5
  l0 : 0 ≤ most
  l1 : most ≤ 4294967296
  w0 : s.ph = .big → 2 ≤ words
  w1 : words ≤ 9223372036854775807

/-- What Next answers. -/
def RNext (g : Nat) (c : Nat → Int) (kind words first most : Int) (s : St) (l : List Int) (rv : Value) (v : Vw) (w : World) (e : Ending) (w' : World) : Prop :=
  ∃ cl' ov' rv', e = .returned (.int .i64 (stepOf words most s v).1) ∧ RT w' g c kind words first most (after words most s v) (l ++ cycleOf (stepOf words most s v).1) cl' ov' rv' ∧
    (rv'.ownBlock = rv.ownBlock ∨ ∃ b, rv'.ownBlock = some b ∧ w.heap.size ≤ b) ∧ Fr (g :: rv.ownBlock.toList) w w'

theorem rnext_of {g : Nat} {c : Nat → Int} {kind words first most : Int} {s : St} {l : List Int} {cl ov cl' ov' : Bool} {rv : Value} {v : Vw} {w w' : World} {n : Int} {l' : List Int} (T : RT w g c kind words first most s l cl ov rv)
    (hn : (stepOf words most s v).1 = n) (hl : l ++ cycleOf n = l') (hph : (stepOf words most s v).2 = rph c kind words cl' ov') (hco : ov' = true → cl' = true) (h : RPost g c kind words first most l' cl' ov' rv w w') :
    RNext g c kind words first most s l rv v w (.returned (.int .i64 n)) w' := by
  obtain ⟨rv', h1, h2, h3⟩ := h
  subst hn hl
  exact ⟨cl', ov', rv', rfl, ⟨h1, T.ok.next words most v, hph, hco, T.kd, T.l0, T.l1, fun h => T.w0 (after_big h), T.w1⟩, h2, h3⟩

/-- When 'open' answers a step, the turn has taken it. -/
theorem open_step {c : Nat → Int} {kind words most : Int} {s : St} {v : Vw} (hp : s.ph = phOf c kind words) (hn : (openR words most s v).1 ≠ 0) :
    (stepOf words most s v).1 = (openR words most s v).1 ∧ (stepOf words most s v).2 = rph c kind words (openR words most s v).2 false := by
  have hx : ∀ b : Bool, rph c kind words b false = if b then .closing else s.ph := by intro b; cases b <;> simp [rph, hp]
  rw [hx]
  clear hx hp
  unfold openR stepOf closeStep at *
  obtain ⟨ph, mi, al, ma⟩ := s
  cases ph <;> simp only at * <;> (repeat' split) <;> simp_all
/-- When it answers none, the turn closes. -/
theorem open_close {words most : Int} {s : St} {v : Vw} (hp : s.ph ≠ .fin) (hn : (openR words most s v).1 = 0) : stepOf words most s v = closeStep most s v ∧ (openR words most s v).2 = false := by
  have h0 := (step_range words most s v).1
  cases hph : s.ph with
  | small => simp only [openR, hph] at hn; omega
  | big => simp only [openR, hph] at hn; omega
  | fin => exact absurd hph hp
  | _ =>
    clear h0
    unfold openR stepOf closeStep at *
    simp only [hph] at *
    (repeat' split) <;> simp_all

theorem RB.dr {w : World} {g : Nat} {c : Nat → Int} {kind words first most : Int} {l : List Int} {cl ov : Bool} {rv : Value} (P : RB w g c kind words first most l cl ov rv) (n : Nat) : RB (w.drewN n) g c kind words first most l cl ov rv :=
  P.fr ((Fr.refl [] w).drewN n) (by simp) (by simp)
theorem rv_lt {w : World} {g : Nat} {c : Nat → Int} {kind words first most : Int} {l : List Int} {cl ov : Bool} {rv : Value} (P : RB w g c kind words first most l cl ov rv) : ∀ k, rv.ownBlock = some k → k < w.heap.size := by
  intro k hk
  obtain ⟨cs, hb⟩ := own_bk P.O hk
  exact hb.lt
theorem RPost.comp {w w1 w' : World} {g : Nat} {c : Nat → Int} {kind words first most : Int} {l' : List Int} {cl ov : Bool} {rv rv2 : Value} (h : RPost g c kind words first most l' cl ov rv2 w1 w')
    (hat : rv2.ownBlock = rv.ownBlock ∨ ∃ b, rv2.ownBlock = some b ∧ w.heap.size ≤ b) (hf : Fr (g :: rv.ownBlock.toList) w w1) : RPost g c kind words first most l' cl ov rv w w' := by
  obtain ⟨rv', h1, h2, h3⟩ := h
  refine ⟨rv', h1, ?_, hf.trans h3 (fun x hx => ?_)⟩
  · rcases h2 with h2 | ⟨b, hb, hl⟩
    · rw [h2]; exact hat
    · exact .inr ⟨b, hb, Nat.le_trans hf.size hl⟩
  · rcases List.mem_cons.1 hx with rfl | hx
    · exact .inl (by simp)
    · rcases hat with h | ⟨b, hb, hl⟩
      · rw [h] at hx; exact .inl (by simpa using Or.inr hx)
      · rw [hb] at hx
        simp only [Option.toList_some, List.mem_singleton] at hx
        subst hx
        exact .inr hl

theorem phOf_fin (c : Nat → Int) (kind words : Int) : phOf c kind words ≠ .fin := by
  unfold phOf
  repeat' split
  all_goals simp


set_option maxHeartbeats 1600000 in
theorem rnext_open (g : Nat) (c : Nat → Int) (kind words first most : Int) (s : St) (l : List Int) (rv : Value) (v : Vw) (w : World)
    (T : RT w g c kind words first most s l false false rv) (hn : (openR words most s (clipV v)).1 ≠ 0) :
    Calls Tryz.prog 25 #[.pointer (some ⟨g, 0, none⟩), .agg #[.int .i64 v.eden, .int .i64 v.young, .int .i64 v.ten, .int .i64 v.room]] w (RNext g c kind words first most s l rv (clipV v) w) := by
  have HT := Lib.hid T
  have hl := T.ok.len3
  have hg := T.R.B.lt
  have HPH : Hid (s.ph = phOf c kind words) := T.ph
  have HO := Lib.hid (open_step HPH.out hn)
  clear T
  go_enter Tryz.func25, Tryz.ntmps25
  go_upto_region 1 with fail
  go_cut [3] (fun u wx => u = .pointer (some ⟨w.heap.size, 0, none⟩) ∧ Hid (Bk wx w.heap.size 67 #[.int .i64 (clip v.eden), .int .i64 (clip v.young), .int .i64 (clip v.ten), .int .i64 (clip v.room)] ∧ Fr [] w wx))
  case first =>
    obtain ⟨w1, hw1⟩ : ∃ w1, w1 = (w.alloc (.cells #[.int .i64 v.eden, .int .i64 v.young, .int .i64 v.ten, .int .i64 v.room] 67)).drew := ⟨_, rfl⟩
    have HV1 : Hid (Bk w1 w.heap.size 67 #[.int .i64 v.eden, .int .i64 v.young, .int .i64 v.ten, .int .i64 v.room]) := by subst hw1; exact (Bk.new _ _ _).drew
    have HF1 : Hid (Fr [] w w1) := by subst hw1; exact ((Fr.refl _ _).alloc _).drew
    have HW1 := Lib.hid hw1
    clear hw1
    have v0 : w1.cell? ⟨w.heap.size, 0, none⟩ = some (.int .i64 v.eden) := HV1.out.cell 0
    have v1 : w1.cell? ⟨w.heap.size, 1, none⟩ = some (.int .i64 v.young) := HV1.out.cell 1
    have v2 : w1.cell? ⟨w.heap.size, 2, none⟩ = some (.int .i64 v.ten) := HV1.out.cell 2
    have v3 : w1.cell? ⟨w.heap.size, 3, none⟩ = some (.int .i64 v.room) := HV1.out.cell 3
    refine wp_region_still_tail 13 (by kernel_rfl) (by kernel_rfl) ?_
    change wpStill _ _ (w.alloc (.cells #[.int .i64 v.eden, .int .i64 v.young, .int .i64 v.ten, .int .i64 v.room] 67)).drew _ _ _
    rw [← HW1.out]
    simp only [List.take_succ_cons, List.take_zero, List.drop_succ_cons, List.drop_zero]
    still_step
    still_step
    still_call (above_any v.eden w1)
    still_step
    still_step
    still_call (above_any v.young w1)
    still_step
    still_step
    still_call (above_any v.ten w1)
    still_step
    still_step
    still_call (above_any v.room w1)
    still_step
    refine wpStill_nil ?_
    change wpList _ _ _ _ _ (w.alloc (.cells #[.int .i64 v.eden, .int .i64 v.young, .int .i64 v.ten, .int .i64 v.room] 67)).drew
    rw [← HW1.out]
    refine wpList_store_row rfl 67 _ _ rfl w.heap.size #[.int .i64 (clip v.eden), .int .i64 (clip v.young), .int .i64 (clip v.ten), .int .i64 (clip v.room)] rfl rfl 67 _ HV1.out (by kernel_rfl) rfl (by simp [Value.oneCell']) ?_
    go_wp2_with fail
    go_meet
    case rel => exact ⟨rfl, HV1.out.row _, HF1.out.row (.inr (Nat.le_refl _)) _⟩
  obtain ⟨rfl, hcut⟩ := hcut
  have HV := Lib.hid hcut.out.1
  have HF := Lib.hid hcut.out.2
  clear hcut
  have HR0 : Hid (RB wc g c kind words first most l false false rv) := HT.out.R.fr HF.out (by simp) (by simp)
  have v0 : wc.cell? ⟨w.heap.size, 0, none⟩ = some (.int .i64 (clip v.eden)) := HV.out.cell 0
  have v1 : wc.cell? ⟨w.heap.size, 1, none⟩ = some (.int .i64 (clip v.young)) := HV.out.cell 1
  have v2 : wc.cell? ⟨w.heap.size, 2, none⟩ = some (.int .i64 (clip v.ten)) := HV.out.cell 2
  have v3 : wc.cell? ⟨w.heap.size, 3, none⟩ = some (.int .i64 (clip v.room)) := HV.out.cell 3
  have h19 : wc.cell? ⟨g, 19, none⟩ = some (.bool false) := HR0.out.B.cell 19
  have hf19 := HR0.out.B.free 19
  go_wp2_with fail
  refine (ropen_any g c kind words first most s l rv (clipV v) wc HR0.out HT.out.ok HT.out.kd HPH.out HT.out.l0 HT.out.l1 HT.out.w0 HT.out.w1).mono ?_
  rintro e w3 ⟨rfl, hr⟩
  have HR := Lib.hid (hr.of_fr HF.out (by simp))
  clear hr h19 hf19 v0 v1 v2 v3
  obtain ⟨n, hn'⟩ : ∃ n, (openR words most s (clipV v)).1 = n := ⟨_, rfl⟩
  have HN := Lib.hid hn'
  rw [hn'] at hn ⊢
  clear hn'
  have hb : (n != 0) = true := by simpa using hn
  go_wp2_with fail
  go_ret
  exact rnext_of HT.out (HO.out.1.trans HN.out) (by rw [HN.out]) HO.out.2 (by simp) HR.out

set_option maxHeartbeats 1600000 in
theorem rnext_z_i (g : Nat) (c : Nat → Int) (kind words first most : Int) (s : St) (l : List Int) (rv : Value) (v : Vw) (w : World)
    (T : RT w g c kind words first most s l false false rv) (hn : (openR words most s (clipV v)).1 = 0) (h1 : most < (clipV v).ten) (hm : s.ma = false) :
    Calls Tryz.prog 25 #[.pointer (some ⟨g, 0, none⟩), .agg #[.int .i64 v.eden, .int .i64 v.young, .int .i64 v.ten, .int .i64 v.room]] w (RNext g c kind words first most s l rv (clipV v) w) := by
  have HT := Lib.hid T
  have hl := T.ok.len3
  have hg := T.R.B.lt
  have HPH : Hid (s.ph = phOf c kind words) := T.ph
  have HO := Lib.hid (open_close (by rw [HPH.out]; exact phOf_fin c kind words) hn)
  have HC : Hid (stepOf words most s (clipV v) = closeStep most s (clipV v)) := HO.out.1
  have E : Hid (closeStep most s (clipV v) = (5, .closing)) := by simp [closeStep, h1, hm, Hid]
  have AL : Hid (decide ((3 : Int) ∈ l) = false) := ma_is T.ok hm
  have h1' : most < clip v.ten := h1
  clear hm h1
  have hrb := rv_lt T.R
  clear T
  go_enter Tryz.func25, Tryz.ntmps25
  go_upto_region 1 with fail
  go_cut [3] (fun u wx => u = .pointer (some ⟨w.heap.size, 0, none⟩) ∧ Hid (Bk wx w.heap.size 67 #[.int .i64 (clip v.eden), .int .i64 (clip v.young), .int .i64 (clip v.ten), .int .i64 (clip v.room)] ∧ Fr [] w wx))
  case first =>
    obtain ⟨w1, hw1⟩ : ∃ w1, w1 = (w.alloc (.cells #[.int .i64 v.eden, .int .i64 v.young, .int .i64 v.ten, .int .i64 v.room] 67)).drew := ⟨_, rfl⟩
    have HV1 : Hid (Bk w1 w.heap.size 67 #[.int .i64 v.eden, .int .i64 v.young, .int .i64 v.ten, .int .i64 v.room]) := by subst hw1; exact (Bk.new _ _ _).drew
    have HF1 : Hid (Fr [] w w1) := by subst hw1; exact ((Fr.refl _ _).alloc _).drew
    have HW1 := Lib.hid hw1
    clear hw1
    have v0 : w1.cell? ⟨w.heap.size, 0, none⟩ = some (.int .i64 v.eden) := HV1.out.cell 0
    have v1 : w1.cell? ⟨w.heap.size, 1, none⟩ = some (.int .i64 v.young) := HV1.out.cell 1
    have v2 : w1.cell? ⟨w.heap.size, 2, none⟩ = some (.int .i64 v.ten) := HV1.out.cell 2
    have v3 : w1.cell? ⟨w.heap.size, 3, none⟩ = some (.int .i64 v.room) := HV1.out.cell 3
    refine wp_region_still_tail 13 (by kernel_rfl) (by kernel_rfl) ?_
    change wpStill _ _ (w.alloc (.cells #[.int .i64 v.eden, .int .i64 v.young, .int .i64 v.ten, .int .i64 v.room] 67)).drew _ _ _
    rw [← HW1.out]
    simp only [List.take_succ_cons, List.take_zero, List.drop_succ_cons, List.drop_zero]
    still_step
    still_step
    still_call (above_any v.eden w1)
    still_step
    still_step
    still_call (above_any v.young w1)
    still_step
    still_step
    still_call (above_any v.ten w1)
    still_step
    still_step
    still_call (above_any v.room w1)
    still_step
    refine wpStill_nil ?_
    change wpList _ _ _ _ _ (w.alloc (.cells #[.int .i64 v.eden, .int .i64 v.young, .int .i64 v.ten, .int .i64 v.room] 67)).drew
    rw [← HW1.out]
    refine wpList_store_row rfl 67 _ _ rfl w.heap.size #[.int .i64 (clip v.eden), .int .i64 (clip v.young), .int .i64 (clip v.ten), .int .i64 (clip v.room)] rfl rfl 67 _ HV1.out (by kernel_rfl) rfl (by simp [Value.oneCell']) ?_
    go_wp2_with fail
    go_meet
    case rel => exact ⟨rfl, HV1.out.row _, HF1.out.row (.inr (Nat.le_refl _)) _⟩
  obtain ⟨rfl, hcut⟩ := hcut
  have HV := Lib.hid hcut.out.1
  have HF := Lib.hid hcut.out.2
  clear hcut
  have HR0 : Hid (RB wc g c kind words first most l false false rv) := HT.out.R.fr HF.out (by simp) (by simp)
  have v0 : wc.cell? ⟨w.heap.size, 0, none⟩ = some (.int .i64 (clip v.eden)) := HV.out.cell 0
  have v1 : wc.cell? ⟨w.heap.size, 1, none⟩ = some (.int .i64 (clip v.young)) := HV.out.cell 1
  have v2 : wc.cell? ⟨w.heap.size, 2, none⟩ = some (.int .i64 (clip v.ten)) := HV.out.cell 2
  have v3 : wc.cell? ⟨w.heap.size, 3, none⟩ = some (.int .i64 (clip v.room)) := HV.out.cell 3
  have h19 : wc.cell? ⟨g, 19, none⟩ = some (.bool false) := HR0.out.B.cell 19
  have hf19 := HR0.out.B.free 19
  go_wp2_with fail
  refine (ropen_any g c kind words first most s l rv (clipV v) wc HR0.out HT.out.ok HT.out.kd HPH.out HT.out.l0 HT.out.l1 HT.out.w0 HT.out.w1).mono ?_
  rintro e w3 ⟨rfl, hr⟩
  rw [hn] at hr ⊢
  rw [HO.out.2] at hr
  have hl0 : l ++ cycleOf 0 = l := by simp [cycleOf]
  rw [hl0] at hr
  clear hl0
  have HV5 : Hid (Bk w3 w.heap.size 67 #[.int .i64 (clip v.eden), .int .i64 (clip v.young), .int .i64 (clip v.ten), .int .i64 (clip v.room)]) := by
    obtain ⟨_, _, _, hfz⟩ := hr
    exact HV.out.fr hfz (by
      intro h
      rcases List.mem_cons.1 h with h | h
      · omega
      · have := hrb _ (by simpa using h)
        omega)
  obtain ⟨rv2, hr2, hat2, hf2⟩ := hr.of_fr HF.out (by simp)
  have HR5 := Lib.hid hr2
  have HAT := Lib.hid hat2
  have HF5 := Lib.hid hf2
  have h19' : w3.cell? ⟨g, 19, none⟩ = some (.bool false) := hr2.B.cell 19
  have hf19' := hr2.B.free 19
  have hg3 := hr2.B.lt
  clear hr h19 hf19 v0 v1 v2 v3 hr2 hat2 hf2 hn
  go_upto_region 7 with fail
  obtain ⟨w6, hw6⟩ : ∃ w6, w6 = w3.setCell ⟨g, 19, none⟩ (.bool true) := ⟨_, rfl⟩
  have HR6 : Hid (RB w6 g c kind words first most l true false rv2) := by subst hw6; exact HR5.out.close
  have HV6 : Hid (Bk w6 w.heap.size 67 #[.int .i64 (clip v.eden), .int .i64 (clip v.young), .int .i64 (clip v.ten), .int .i64 (clip v.room)]) := by subst hw6; exact HV5.out.far (by simp; omega) _
  have HF6 : Hid (Fr (g :: rv.ownBlock.toList) w w6) := by subst hw6; exact HF5.out.setCell (by simp) _
  rw [← hw6]
  clear hw6
  clear h19' hf19'
  have h17 : w6.cell? ⟨g, 17, none⟩ = some (.int .i64 most) := HR6.out.B.cell 17
  have h20 : w6.cell? ⟨g, 20, none⟩ = some (.bool false) := HR6.out.B.cell 20
  have hf20 := HR6.out.B.free 20
  have hg6 := HR6.out.B.lt
  have v2 : w6.cell? ⟨w.heap.size, 2, none⟩ = some (.int .i64 (clip v.ten)) := HV6.out.cell 2
  go_quiet ((go_at_call 73; refine Calls.quiet_of_same (ran_is AL.out (HR6.out.dr _) hl)))
  clear h17 v2
  go_wp2_with fail
  refine (cycle_any g c kind words first most l true false rv2 5 3 _ (HR6.out.dr _) hl).mono ?_
  rintro e w7 ⟨rfl, hr⟩
  have HR7 := Lib.hid ((hr.of_fr ((Fr.refl [] w6).drewN _) (by simp)).comp HAT.out HF6.out)
  clear hr h20 hf20
  go_wp2_with fail
  go_ret
  exact rnext_of HT.out (by rw [HC.out, E.out]) rfl (by rw [HC.out, E.out]; rfl) (by simp) HR7.out


set_option maxHeartbeats 1600000 in
theorem rnext_z_ii (g : Nat) (c : Nat → Int) (kind words first most : Int) (s : St) (l : List Int) (rv : Value) (v : Vw) (w : World)
    (T : RT w g c kind words first most s l false false rv) (hn : (openR words most s (clipV v)).1 = 0) (h1 : most < (clipV v).ten) (hm : s.ma = true) :
    Calls Tryz.prog 25 #[.pointer (some ⟨g, 0, none⟩), .agg #[.int .i64 v.eden, .int .i64 v.young, .int .i64 v.ten, .int .i64 v.room]] w (RNext g c kind words first most s l rv (clipV v) w) := by
  have HT := Lib.hid T
  have hl := T.ok.len3
  have hg := T.R.B.lt
  have HPH : Hid (s.ph = phOf c kind words) := T.ph
  have HO := Lib.hid (open_close (by rw [HPH.out]; exact phOf_fin c kind words) hn)
  have HC : Hid (stepOf words most s (clipV v) = closeStep most s (clipV v)) := HO.out.1
  have E : Hid (closeStep most s (clipV v) = (7, .fin)) := by simp [closeStep, hm, Hid]
  have AL : Hid (decide ((3 : Int) ∈ l) = true) := ma_is T.ok hm
  have h1' : most < clip v.ten := h1
  clear hm h1
  have hrb := rv_lt T.R
  clear T
  go_enter Tryz.func25, Tryz.ntmps25
  go_upto_region 1 with fail
  go_cut [3] (fun u wx => u = .pointer (some ⟨w.heap.size, 0, none⟩) ∧ Hid (Bk wx w.heap.size 67 #[.int .i64 (clip v.eden), .int .i64 (clip v.young), .int .i64 (clip v.ten), .int .i64 (clip v.room)] ∧ Fr [] w wx))
  case first =>
    obtain ⟨w1, hw1⟩ : ∃ w1, w1 = (w.alloc (.cells #[.int .i64 v.eden, .int .i64 v.young, .int .i64 v.ten, .int .i64 v.room] 67)).drew := ⟨_, rfl⟩
    have HV1 : Hid (Bk w1 w.heap.size 67 #[.int .i64 v.eden, .int .i64 v.young, .int .i64 v.ten, .int .i64 v.room]) := by subst hw1; exact (Bk.new _ _ _).drew
    have HF1 : Hid (Fr [] w w1) := by subst hw1; exact ((Fr.refl _ _).alloc _).drew
    have HW1 := Lib.hid hw1
    clear hw1
    have v0 : w1.cell? ⟨w.heap.size, 0, none⟩ = some (.int .i64 v.eden) := HV1.out.cell 0
    have v1 : w1.cell? ⟨w.heap.size, 1, none⟩ = some (.int .i64 v.young) := HV1.out.cell 1
    have v2 : w1.cell? ⟨w.heap.size, 2, none⟩ = some (.int .i64 v.ten) := HV1.out.cell 2
    have v3 : w1.cell? ⟨w.heap.size, 3, none⟩ = some (.int .i64 v.room) := HV1.out.cell 3
    refine wp_region_still_tail 13 (by kernel_rfl) (by kernel_rfl) ?_
    change wpStill _ _ (w.alloc (.cells #[.int .i64 v.eden, .int .i64 v.young, .int .i64 v.ten, .int .i64 v.room] 67)).drew _ _ _
    rw [← HW1.out]
    simp only [List.take_succ_cons, List.take_zero, List.drop_succ_cons, List.drop_zero]
    still_step
    still_step
    still_call (above_any v.eden w1)
    still_step
    still_step
    still_call (above_any v.young w1)
    still_step
    still_step
    still_call (above_any v.ten w1)
    still_step
    still_step
    still_call (above_any v.room w1)
    still_step
    refine wpStill_nil ?_
    change wpList _ _ _ _ _ (w.alloc (.cells #[.int .i64 v.eden, .int .i64 v.young, .int .i64 v.ten, .int .i64 v.room] 67)).drew
    rw [← HW1.out]
    refine wpList_store_row rfl 67 _ _ rfl w.heap.size #[.int .i64 (clip v.eden), .int .i64 (clip v.young), .int .i64 (clip v.ten), .int .i64 (clip v.room)] rfl rfl 67 _ HV1.out (by kernel_rfl) rfl (by simp [Value.oneCell']) ?_
    go_wp2_with fail
    go_meet
    case rel => exact ⟨rfl, HV1.out.row _, HF1.out.row (.inr (Nat.le_refl _)) _⟩
  obtain ⟨rfl, hcut⟩ := hcut
  have HV := Lib.hid hcut.out.1
  have HF := Lib.hid hcut.out.2
  clear hcut
  have HR0 : Hid (RB wc g c kind words first most l false false rv) := HT.out.R.fr HF.out (by simp) (by simp)
  have v0 : wc.cell? ⟨w.heap.size, 0, none⟩ = some (.int .i64 (clip v.eden)) := HV.out.cell 0
  have v1 : wc.cell? ⟨w.heap.size, 1, none⟩ = some (.int .i64 (clip v.young)) := HV.out.cell 1
  have v2 : wc.cell? ⟨w.heap.size, 2, none⟩ = some (.int .i64 (clip v.ten)) := HV.out.cell 2
  have v3 : wc.cell? ⟨w.heap.size, 3, none⟩ = some (.int .i64 (clip v.room)) := HV.out.cell 3
  have h19 : wc.cell? ⟨g, 19, none⟩ = some (.bool false) := HR0.out.B.cell 19
  have hf19 := HR0.out.B.free 19
  go_wp2_with fail
  refine (ropen_any g c kind words first most s l rv (clipV v) wc HR0.out HT.out.ok HT.out.kd HPH.out HT.out.l0 HT.out.l1 HT.out.w0 HT.out.w1).mono ?_
  rintro e w3 ⟨rfl, hr⟩
  rw [hn] at hr ⊢
  rw [HO.out.2] at hr
  have hl0 : l ++ cycleOf 0 = l := by simp [cycleOf]
  rw [hl0] at hr
  clear hl0
  have HV5 : Hid (Bk w3 w.heap.size 67 #[.int .i64 (clip v.eden), .int .i64 (clip v.young), .int .i64 (clip v.ten), .int .i64 (clip v.room)]) := by
    obtain ⟨_, _, _, hfz⟩ := hr
    exact HV.out.fr hfz (by
      intro h
      rcases List.mem_cons.1 h with h | h
      · omega
      · have := hrb _ (by simpa using h)
        omega)
  obtain ⟨rv2, hr2, hat2, hf2⟩ := hr.of_fr HF.out (by simp)
  have HR5 := Lib.hid hr2
  have HAT := Lib.hid hat2
  have HF5 := Lib.hid hf2
  have h19' : w3.cell? ⟨g, 19, none⟩ = some (.bool false) := hr2.B.cell 19
  have hf19' := hr2.B.free 19
  have hg3 := hr2.B.lt
  clear hr h19 hf19 v0 v1 v2 v3 hr2 hat2 hf2 hn
  go_upto_region 7 with fail
  obtain ⟨w6, hw6⟩ : ∃ w6, w6 = w3.setCell ⟨g, 19, none⟩ (.bool true) := ⟨_, rfl⟩
  have HR6 : Hid (RB w6 g c kind words first most l true false rv2) := by subst hw6; exact HR5.out.close
  have HV6 : Hid (Bk w6 w.heap.size 67 #[.int .i64 (clip v.eden), .int .i64 (clip v.young), .int .i64 (clip v.ten), .int .i64 (clip v.room)]) := by subst hw6; exact HV5.out.far (by simp; omega) _
  have HF6 : Hid (Fr (g :: rv.ownBlock.toList) w w6) := by subst hw6; exact HF5.out.setCell (by simp) _
  rw [← hw6]
  clear hw6
  clear h19' hf19'
  have h17 : w6.cell? ⟨g, 17, none⟩ = some (.int .i64 most) := HR6.out.B.cell 17
  have h20 : w6.cell? ⟨g, 20, none⟩ = some (.bool false) := HR6.out.B.cell 20
  have hf20 := HR6.out.B.free 20
  have hg6 := HR6.out.B.lt
  have v2 : w6.cell? ⟨w.heap.size, 2, none⟩ = some (.int .i64 (clip v.ten)) := HV6.out.cell 2
  go_quiet ((go_at_call 73; refine Calls.quiet_of_same (ran_is AL.out (HR6.out.dr _) hl)))
  clear h17 v2
  go_wp2_with fail
  go_ret
  exact rnext_of HT.out (by rw [HC.out, E.out]) (by simp [cycleOf]) (by rw [HC.out, E.out]; rfl) (by simp) ((RPost.self (HR6.out.dr _).over (((Fr.refl [g] w6).drewN _).setCell (by simp) _)).comp HAT.out HF6.out)


set_option maxHeartbeats 1600000 in
theorem rnext_z_iii (g : Nat) (c : Nat → Int) (kind words first most : Int) (s : St) (l : List Int) (rv : Value) (v : Vw) (w : World)
    (T : RT w g c kind words first most s l false false rv) (hn : (openR words most s (clipV v)).1 = 0) (h1 : (clipV v).ten ≤ most) :
    Calls Tryz.prog 25 #[.pointer (some ⟨g, 0, none⟩), .agg #[.int .i64 v.eden, .int .i64 v.young, .int .i64 v.ten, .int .i64 v.room]] w (RNext g c kind words first most s l rv (clipV v) w) := by
  have HT := Lib.hid T
  have hl := T.ok.len3
  have hg := T.R.B.lt
  have HPH : Hid (s.ph = phOf c kind words) := T.ph
  have HO := Lib.hid (open_close (by rw [HPH.out]; exact phOf_fin c kind words) hn)
  have HC : Hid (stepOf words most s (clipV v) = closeStep most s (clipV v)) := HO.out.1
  have E : Hid (closeStep most s (clipV v) = (7, .fin)) := by simp [closeStep, Int.not_lt.2 h1, Hid]
  have h1' : decide (most < clip v.ten) = false := by simpa [clipV] using h1
  clear h1
  have hrb := rv_lt T.R
  clear T
  go_enter Tryz.func25, Tryz.ntmps25
  go_upto_region 1 with fail
  go_cut [3] (fun u wx => u = .pointer (some ⟨w.heap.size, 0, none⟩) ∧ Hid (Bk wx w.heap.size 67 #[.int .i64 (clip v.eden), .int .i64 (clip v.young), .int .i64 (clip v.ten), .int .i64 (clip v.room)] ∧ Fr [] w wx))
  case first =>
    obtain ⟨w1, hw1⟩ : ∃ w1, w1 = (w.alloc (.cells #[.int .i64 v.eden, .int .i64 v.young, .int .i64 v.ten, .int .i64 v.room] 67)).drew := ⟨_, rfl⟩
    have HV1 : Hid (Bk w1 w.heap.size 67 #[.int .i64 v.eden, .int .i64 v.young, .int .i64 v.ten, .int .i64 v.room]) := by subst hw1; exact (Bk.new _ _ _).drew
    have HF1 : Hid (Fr [] w w1) := by subst hw1; exact ((Fr.refl _ _).alloc _).drew
    have HW1 := Lib.hid hw1
    clear hw1
    have v0 : w1.cell? ⟨w.heap.size, 0, none⟩ = some (.int .i64 v.eden) := HV1.out.cell 0
    have v1 : w1.cell? ⟨w.heap.size, 1, none⟩ = some (.int .i64 v.young) := HV1.out.cell 1
    have v2 : w1.cell? ⟨w.heap.size, 2, none⟩ = some (.int .i64 v.ten) := HV1.out.cell 2
    have v3 : w1.cell? ⟨w.heap.size, 3, none⟩ = some (.int .i64 v.room) := HV1.out.cell 3
    refine wp_region_still_tail 13 (by kernel_rfl) (by kernel_rfl) ?_
    change wpStill _ _ (w.alloc (.cells #[.int .i64 v.eden, .int .i64 v.young, .int .i64 v.ten, .int .i64 v.room] 67)).drew _ _ _
    rw [← HW1.out]
    simp only [List.take_succ_cons, List.take_zero, List.drop_succ_cons, List.drop_zero]
    still_step
    still_step
    still_call (above_any v.eden w1)
    still_step
    still_step
    still_call (above_any v.young w1)
    still_step
    still_step
    still_call (above_any v.ten w1)
    still_step
    still_step
    still_call (above_any v.room w1)
    still_step
    refine wpStill_nil ?_
    change wpList _ _ _ _ _ (w.alloc (.cells #[.int .i64 v.eden, .int .i64 v.young, .int .i64 v.ten, .int .i64 v.room] 67)).drew
    rw [← HW1.out]
    refine wpList_store_row rfl 67 _ _ rfl w.heap.size #[.int .i64 (clip v.eden), .int .i64 (clip v.young), .int .i64 (clip v.ten), .int .i64 (clip v.room)] rfl rfl 67 _ HV1.out (by kernel_rfl) rfl (by simp [Value.oneCell']) ?_
    go_wp2_with fail
    go_meet
    case rel => exact ⟨rfl, HV1.out.row _, HF1.out.row (.inr (Nat.le_refl _)) _⟩
  obtain ⟨rfl, hcut⟩ := hcut
  have HV := Lib.hid hcut.out.1
  have HF := Lib.hid hcut.out.2
  clear hcut
  have HR0 : Hid (RB wc g c kind words first most l false false rv) := HT.out.R.fr HF.out (by simp) (by simp)
  have v0 : wc.cell? ⟨w.heap.size, 0, none⟩ = some (.int .i64 (clip v.eden)) := HV.out.cell 0
  have v1 : wc.cell? ⟨w.heap.size, 1, none⟩ = some (.int .i64 (clip v.young)) := HV.out.cell 1
  have v2 : wc.cell? ⟨w.heap.size, 2, none⟩ = some (.int .i64 (clip v.ten)) := HV.out.cell 2
  have v3 : wc.cell? ⟨w.heap.size, 3, none⟩ = some (.int .i64 (clip v.room)) := HV.out.cell 3
  have h19 : wc.cell? ⟨g, 19, none⟩ = some (.bool false) := HR0.out.B.cell 19
  have hf19 := HR0.out.B.free 19
  go_wp2_with fail
  refine (ropen_any g c kind words first most s l rv (clipV v) wc HR0.out HT.out.ok HT.out.kd HPH.out HT.out.l0 HT.out.l1 HT.out.w0 HT.out.w1).mono ?_
  rintro e w3 ⟨rfl, hr⟩
  rw [hn] at hr ⊢
  rw [HO.out.2] at hr
  have hl0 : l ++ cycleOf 0 = l := by simp [cycleOf]
  rw [hl0] at hr
  clear hl0
  have HV5 : Hid (Bk w3 w.heap.size 67 #[.int .i64 (clip v.eden), .int .i64 (clip v.young), .int .i64 (clip v.ten), .int .i64 (clip v.room)]) := by
    obtain ⟨_, _, _, hfz⟩ := hr
    exact HV.out.fr hfz (by
      intro h
      rcases List.mem_cons.1 h with h | h
      · omega
      · have := hrb _ (by simpa using h)
        omega)
  obtain ⟨rv2, hr2, hat2, hf2⟩ := hr.of_fr HF.out (by simp)
  have HR5 := Lib.hid hr2
  have HAT := Lib.hid hat2
  have HF5 := Lib.hid hf2
  have h19' : w3.cell? ⟨g, 19, none⟩ = some (.bool false) := hr2.B.cell 19
  have hf19' := hr2.B.free 19
  have hg3 := hr2.B.lt
  clear hr h19 hf19 v0 v1 v2 v3 hr2 hat2 hf2 hn
  go_upto_region 7 with fail
  obtain ⟨w6, hw6⟩ : ∃ w6, w6 = w3.setCell ⟨g, 19, none⟩ (.bool true) := ⟨_, rfl⟩
  have HR6 : Hid (RB w6 g c kind words first most l true false rv2) := by subst hw6; exact HR5.out.close
  have HV6 : Hid (Bk w6 w.heap.size 67 #[.int .i64 (clip v.eden), .int .i64 (clip v.young), .int .i64 (clip v.ten), .int .i64 (clip v.room)]) := by subst hw6; exact HV5.out.far (by simp; omega) _
  have HF6 : Hid (Fr (g :: rv.ownBlock.toList) w w6) := by subst hw6; exact HF5.out.setCell (by simp) _
  rw [← hw6]
  clear hw6
  clear h19' hf19'
  have h17 : w6.cell? ⟨g, 17, none⟩ = some (.int .i64 most) := HR6.out.B.cell 17
  have h20 : w6.cell? ⟨g, 20, none⟩ = some (.bool false) := HR6.out.B.cell 20
  have hf20 := HR6.out.B.free 20
  have hg6 := HR6.out.B.lt
  have v2 : w6.cell? ⟨w.heap.size, 2, none⟩ = some (.int .i64 (clip v.ten)) := HV6.out.cell 2
  go_quiet (fail)
  clear h17 v2
  go_wp2_with fail
  go_ret
  exact rnext_of HT.out (by rw [HC.out, E.out]) (by simp [cycleOf]) (by rw [HC.out, E.out]; rfl) (by simp) ((RPost.self (HR6.out.dr _).over (((Fr.refl [g] w6).drewN _).setCell (by simp) _)).comp HAT.out HF6.out)


set_option maxHeartbeats 1600000 in
theorem rnext_c_i (g : Nat) (c : Nat → Int) (kind words first most : Int) (s : St) (l : List Int) (rv : Value) (v : Vw) (w : World)
    (T : RT w g c kind words first most s l true false rv) (h1 : most < (clipV v).ten) (hm : s.ma = false) :
    Calls Tryz.prog 25 #[.pointer (some ⟨g, 0, none⟩), .agg #[.int .i64 v.eden, .int .i64 v.young, .int .i64 v.ten, .int .i64 v.room]] w (RNext g c kind words first most s l rv (clipV v) w) := by
  have HT := Lib.hid T
  have hl := T.ok.len3
  have hg := T.R.B.lt
  have HC : Hid (stepOf words most s (clipV v) = closeStep most s (clipV v)) := by
    have : s.ph = .closing := T.ph
    simp [stepOf, this, Hid]
  have E : Hid (closeStep most s (clipV v) = (5, .closing)) := by simp [closeStep, h1, hm, Hid]
  have AL : Hid (decide ((3 : Int) ∈ l) = false) := ma_is T.ok hm
  have h1' : most < clip v.ten := h1
  clear hm h1
  have hrb := rv_lt T.R
  clear T
  go_enter Tryz.func25, Tryz.ntmps25
  go_upto_region 1 with fail
  go_cut [3] (fun u wx => u = .pointer (some ⟨w.heap.size, 0, none⟩) ∧ Hid (Bk wx w.heap.size 67 #[.int .i64 (clip v.eden), .int .i64 (clip v.young), .int .i64 (clip v.ten), .int .i64 (clip v.room)] ∧ Fr [] w wx))
  case first =>
    obtain ⟨w1, hw1⟩ : ∃ w1, w1 = (w.alloc (.cells #[.int .i64 v.eden, .int .i64 v.young, .int .i64 v.ten, .int .i64 v.room] 67)).drew := ⟨_, rfl⟩
    have HV1 : Hid (Bk w1 w.heap.size 67 #[.int .i64 v.eden, .int .i64 v.young, .int .i64 v.ten, .int .i64 v.room]) := by subst hw1; exact (Bk.new _ _ _).drew
    have HF1 : Hid (Fr [] w w1) := by subst hw1; exact ((Fr.refl _ _).alloc _).drew
    have HW1 := Lib.hid hw1
    clear hw1
    have v0 : w1.cell? ⟨w.heap.size, 0, none⟩ = some (.int .i64 v.eden) := HV1.out.cell 0
    have v1 : w1.cell? ⟨w.heap.size, 1, none⟩ = some (.int .i64 v.young) := HV1.out.cell 1
    have v2 : w1.cell? ⟨w.heap.size, 2, none⟩ = some (.int .i64 v.ten) := HV1.out.cell 2
    have v3 : w1.cell? ⟨w.heap.size, 3, none⟩ = some (.int .i64 v.room) := HV1.out.cell 3
    refine wp_region_still_tail 13 (by kernel_rfl) (by kernel_rfl) ?_
    change wpStill _ _ (w.alloc (.cells #[.int .i64 v.eden, .int .i64 v.young, .int .i64 v.ten, .int .i64 v.room] 67)).drew _ _ _
    rw [← HW1.out]
    simp only [List.take_succ_cons, List.take_zero, List.drop_succ_cons, List.drop_zero]
    still_step
    still_step
    still_call (above_any v.eden w1)
    still_step
    still_step
    still_call (above_any v.young w1)
    still_step
    still_step
    still_call (above_any v.ten w1)
    still_step
    still_step
    still_call (above_any v.room w1)
    still_step
    refine wpStill_nil ?_
    change wpList _ _ _ _ _ (w.alloc (.cells #[.int .i64 v.eden, .int .i64 v.young, .int .i64 v.ten, .int .i64 v.room] 67)).drew
    rw [← HW1.out]
    refine wpList_store_row rfl 67 _ _ rfl w.heap.size #[.int .i64 (clip v.eden), .int .i64 (clip v.young), .int .i64 (clip v.ten), .int .i64 (clip v.room)] rfl rfl 67 _ HV1.out (by kernel_rfl) rfl (by simp [Value.oneCell']) ?_
    go_wp2_with fail
    go_meet
    case rel => exact ⟨rfl, HV1.out.row _, HF1.out.row (.inr (Nat.le_refl _)) _⟩
  obtain ⟨rfl, hcut⟩ := hcut
  have HV := Lib.hid hcut.out.1
  have HF := Lib.hid hcut.out.2
  clear hcut
  have HR0 : Hid (RB wc g c kind words first most l true false rv) := HT.out.R.fr HF.out (by simp) (by simp)
  have v0 : wc.cell? ⟨w.heap.size, 0, none⟩ = some (.int .i64 (clip v.eden)) := HV.out.cell 0
  have v1 : wc.cell? ⟨w.heap.size, 1, none⟩ = some (.int .i64 (clip v.young)) := HV.out.cell 1
  have v2 : wc.cell? ⟨w.heap.size, 2, none⟩ = some (.int .i64 (clip v.ten)) := HV.out.cell 2
  have v3 : wc.cell? ⟨w.heap.size, 3, none⟩ = some (.int .i64 (clip v.room)) := HV.out.cell 3
  have h19 : wc.cell? ⟨g, 19, none⟩ = some (.bool true) := HR0.out.B.cell 19
  have hf19 := HR0.out.B.free 19
  have HR5 := HR0
  have HV5 := HV
  have HF5 : Hid (Fr (g :: rv.ownBlock.toList) w wc) := HF.out.mono (by simp)
  clear v0 v1 v2 v3
  go_upto_region 7 with fail
  obtain ⟨w6, hw6⟩ : ∃ w6, w6 = wc.setCell ⟨g, 19, none⟩ (.bool true) := ⟨_, rfl⟩
  have HR6 : Hid (RB w6 g c kind words first most l true false rv) := by subst hw6; exact HR5.out.close
  have HV6 : Hid (Bk w6 w.heap.size 67 #[.int .i64 (clip v.eden), .int .i64 (clip v.young), .int .i64 (clip v.ten), .int .i64 (clip v.room)]) := by subst hw6; exact HV5.out.far (by simp; omega) _
  have HF6 : Hid (Fr (g :: rv.ownBlock.toList) w w6) := by subst hw6; exact HF5.out.setCell (by simp) _
  rw [← hw6]
  clear hw6
  clear h19 hf19
  have h17 : w6.cell? ⟨g, 17, none⟩ = some (.int .i64 most) := HR6.out.B.cell 17
  have h20 : w6.cell? ⟨g, 20, none⟩ = some (.bool false) := HR6.out.B.cell 20
  have hf20 := HR6.out.B.free 20
  have hg6 := HR6.out.B.lt
  have v2 : w6.cell? ⟨w.heap.size, 2, none⟩ = some (.int .i64 (clip v.ten)) := HV6.out.cell 2
  go_quiet ((go_at_call 73; refine Calls.quiet_of_same (ran_is AL.out (HR6.out.dr _) hl)))
  clear h17 v2
  go_wp2_with fail
  refine (cycle_any g c kind words first most l true false rv 5 3 _ (HR6.out.dr _) hl).mono ?_
  rintro e w7 ⟨rfl, hr⟩
  have HR7 := Lib.hid ((hr.of_fr ((Fr.refl [] w6).drewN _) (by simp)).comp (Or.inl rfl) HF6.out)
  clear hr h20 hf20
  go_wp2_with fail
  go_ret
  exact rnext_of HT.out (by rw [HC.out, E.out]) rfl (by rw [HC.out, E.out]; rfl) (by simp) HR7.out


set_option maxHeartbeats 1600000 in
theorem rnext_c_ii (g : Nat) (c : Nat → Int) (kind words first most : Int) (s : St) (l : List Int) (rv : Value) (v : Vw) (w : World)
    (T : RT w g c kind words first most s l true false rv) (h1 : most < (clipV v).ten) (hm : s.ma = true) :
    Calls Tryz.prog 25 #[.pointer (some ⟨g, 0, none⟩), .agg #[.int .i64 v.eden, .int .i64 v.young, .int .i64 v.ten, .int .i64 v.room]] w (RNext g c kind words first most s l rv (clipV v) w) := by
  have HT := Lib.hid T
  have hl := T.ok.len3
  have hg := T.R.B.lt
  have HC : Hid (stepOf words most s (clipV v) = closeStep most s (clipV v)) := by
    have : s.ph = .closing := T.ph
    simp [stepOf, this, Hid]
  have E : Hid (closeStep most s (clipV v) = (7, .fin)) := by simp [closeStep, hm, Hid]
  have AL : Hid (decide ((3 : Int) ∈ l) = true) := ma_is T.ok hm
  have h1' : most < clip v.ten := h1
  clear hm h1
  have hrb := rv_lt T.R
  clear T
  go_enter Tryz.func25, Tryz.ntmps25
  go_upto_region 1 with fail
  go_cut [3] (fun u wx => u = .pointer (some ⟨w.heap.size, 0, none⟩) ∧ Hid (Bk wx w.heap.size 67 #[.int .i64 (clip v.eden), .int .i64 (clip v.young), .int .i64 (clip v.ten), .int .i64 (clip v.room)] ∧ Fr [] w wx))
  case first =>
    obtain ⟨w1, hw1⟩ : ∃ w1, w1 = (w.alloc (.cells #[.int .i64 v.eden, .int .i64 v.young, .int .i64 v.ten, .int .i64 v.room] 67)).drew := ⟨_, rfl⟩
    have HV1 : Hid (Bk w1 w.heap.size 67 #[.int .i64 v.eden, .int .i64 v.young, .int .i64 v.ten, .int .i64 v.room]) := by subst hw1; exact (Bk.new _ _ _).drew
    have HF1 : Hid (Fr [] w w1) := by subst hw1; exact ((Fr.refl _ _).alloc _).drew
    have HW1 := Lib.hid hw1
    clear hw1
    have v0 : w1.cell? ⟨w.heap.size, 0, none⟩ = some (.int .i64 v.eden) := HV1.out.cell 0
    have v1 : w1.cell? ⟨w.heap.size, 1, none⟩ = some (.int .i64 v.young) := HV1.out.cell 1
    have v2 : w1.cell? ⟨w.heap.size, 2, none⟩ = some (.int .i64 v.ten) := HV1.out.cell 2
    have v3 : w1.cell? ⟨w.heap.size, 3, none⟩ = some (.int .i64 v.room) := HV1.out.cell 3
    refine wp_region_still_tail 13 (by kernel_rfl) (by kernel_rfl) ?_
    change wpStill _ _ (w.alloc (.cells #[.int .i64 v.eden, .int .i64 v.young, .int .i64 v.ten, .int .i64 v.room] 67)).drew _ _ _
    rw [← HW1.out]
    simp only [List.take_succ_cons, List.take_zero, List.drop_succ_cons, List.drop_zero]
    still_step
    still_step
    still_call (above_any v.eden w1)
    still_step
    still_step
    still_call (above_any v.young w1)
    still_step
    still_step
    still_call (above_any v.ten w1)
    still_step
    still_step
    still_call (above_any v.room w1)
    still_step
    refine wpStill_nil ?_
    change wpList _ _ _ _ _ (w.alloc (.cells #[.int .i64 v.eden, .int .i64 v.young, .int .i64 v.ten, .int .i64 v.room] 67)).drew
    rw [← HW1.out]
    refine wpList_store_row rfl 67 _ _ rfl w.heap.size #[.int .i64 (clip v.eden), .int .i64 (clip v.young), .int .i64 (clip v.ten), .int .i64 (clip v.room)] rfl rfl 67 _ HV1.out (by kernel_rfl) rfl (by simp [Value.oneCell']) ?_
    go_wp2_with fail
    go_meet
    case rel => exact ⟨rfl, HV1.out.row _, HF1.out.row (.inr (Nat.le_refl _)) _⟩
  obtain ⟨rfl, hcut⟩ := hcut
  have HV := Lib.hid hcut.out.1
  have HF := Lib.hid hcut.out.2
  clear hcut
  have HR0 : Hid (RB wc g c kind words first most l true false rv) := HT.out.R.fr HF.out (by simp) (by simp)
  have v0 : wc.cell? ⟨w.heap.size, 0, none⟩ = some (.int .i64 (clip v.eden)) := HV.out.cell 0
  have v1 : wc.cell? ⟨w.heap.size, 1, none⟩ = some (.int .i64 (clip v.young)) := HV.out.cell 1
  have v2 : wc.cell? ⟨w.heap.size, 2, none⟩ = some (.int .i64 (clip v.ten)) := HV.out.cell 2
  have v3 : wc.cell? ⟨w.heap.size, 3, none⟩ = some (.int .i64 (clip v.room)) := HV.out.cell 3
  have h19 : wc.cell? ⟨g, 19, none⟩ = some (.bool true) := HR0.out.B.cell 19
  have hf19 := HR0.out.B.free 19
  have HR5 := HR0
  have HV5 := HV
  have HF5 : Hid (Fr (g :: rv.ownBlock.toList) w wc) := HF.out.mono (by simp)
  clear v0 v1 v2 v3
  go_upto_region 7 with fail
  obtain ⟨w6, hw6⟩ : ∃ w6, w6 = wc.setCell ⟨g, 19, none⟩ (.bool true) := ⟨_, rfl⟩
  have HR6 : Hid (RB w6 g c kind words first most l true false rv) := by subst hw6; exact HR5.out.close
  have HV6 : Hid (Bk w6 w.heap.size 67 #[.int .i64 (clip v.eden), .int .i64 (clip v.young), .int .i64 (clip v.ten), .int .i64 (clip v.room)]) := by subst hw6; exact HV5.out.far (by simp; omega) _
  have HF6 : Hid (Fr (g :: rv.ownBlock.toList) w w6) := by subst hw6; exact HF5.out.setCell (by simp) _
  rw [← hw6]
  clear hw6
  clear h19 hf19
  have h17 : w6.cell? ⟨g, 17, none⟩ = some (.int .i64 most) := HR6.out.B.cell 17
  have h20 : w6.cell? ⟨g, 20, none⟩ = some (.bool false) := HR6.out.B.cell 20
  have hf20 := HR6.out.B.free 20
  have hg6 := HR6.out.B.lt
  have v2 : w6.cell? ⟨w.heap.size, 2, none⟩ = some (.int .i64 (clip v.ten)) := HV6.out.cell 2
  go_quiet ((go_at_call 73; refine Calls.quiet_of_same (ran_is AL.out (HR6.out.dr _) hl)))
  clear h17 v2
  go_wp2_with fail
  go_ret
  exact rnext_of HT.out (by rw [HC.out, E.out]) (by simp [cycleOf]) (by rw [HC.out, E.out]; rfl) (by simp) ((RPost.self (HR6.out.dr _).over (((Fr.refl [g] w6).drewN _).setCell (by simp) _)).comp (Or.inl rfl) HF6.out)


set_option maxHeartbeats 1600000 in
theorem rnext_c_iii (g : Nat) (c : Nat → Int) (kind words first most : Int) (s : St) (l : List Int) (rv : Value) (v : Vw) (w : World)
    (T : RT w g c kind words first most s l true false rv) (h1 : (clipV v).ten ≤ most) :
    Calls Tryz.prog 25 #[.pointer (some ⟨g, 0, none⟩), .agg #[.int .i64 v.eden, .int .i64 v.young, .int .i64 v.ten, .int .i64 v.room]] w (RNext g c kind words first most s l rv (clipV v) w) := by
  have HT := Lib.hid T
  have hl := T.ok.len3
  have hg := T.R.B.lt
  have HC : Hid (stepOf words most s (clipV v) = closeStep most s (clipV v)) := by
    have : s.ph = .closing := T.ph
    simp [stepOf, this, Hid]
  have E : Hid (closeStep most s (clipV v) = (7, .fin)) := by simp [closeStep, Int.not_lt.2 h1, Hid]
  have h1' : decide (most < clip v.ten) = false := by simpa [clipV] using h1
  clear h1
  have hrb := rv_lt T.R
  clear T
  go_enter Tryz.func25, Tryz.ntmps25
  go_upto_region 1 with fail
  go_cut [3] (fun u wx => u = .pointer (some ⟨w.heap.size, 0, none⟩) ∧ Hid (Bk wx w.heap.size 67 #[.int .i64 (clip v.eden), .int .i64 (clip v.young), .int .i64 (clip v.ten), .int .i64 (clip v.room)] ∧ Fr [] w wx))
  case first =>
    obtain ⟨w1, hw1⟩ : ∃ w1, w1 = (w.alloc (.cells #[.int .i64 v.eden, .int .i64 v.young, .int .i64 v.ten, .int .i64 v.room] 67)).drew := ⟨_, rfl⟩
    have HV1 : Hid (Bk w1 w.heap.size 67 #[.int .i64 v.eden, .int .i64 v.young, .int .i64 v.ten, .int .i64 v.room]) := by subst hw1; exact (Bk.new _ _ _).drew
    have HF1 : Hid (Fr [] w w1) := by subst hw1; exact ((Fr.refl _ _).alloc _).drew
    have HW1 := Lib.hid hw1
    clear hw1
    have v0 : w1.cell? ⟨w.heap.size, 0, none⟩ = some (.int .i64 v.eden) := HV1.out.cell 0
    have v1 : w1.cell? ⟨w.heap.size, 1, none⟩ = some (.int .i64 v.young) := HV1.out.cell 1
    have v2 : w1.cell? ⟨w.heap.size, 2, none⟩ = some (.int .i64 v.ten) := HV1.out.cell 2
    have v3 : w1.cell? ⟨w.heap.size, 3, none⟩ = some (.int .i64 v.room) := HV1.out.cell 3
    refine wp_region_still_tail 13 (by kernel_rfl) (by kernel_rfl) ?_
    change wpStill _ _ (w.alloc (.cells #[.int .i64 v.eden, .int .i64 v.young, .int .i64 v.ten, .int .i64 v.room] 67)).drew _ _ _
    rw [← HW1.out]
    simp only [List.take_succ_cons, List.take_zero, List.drop_succ_cons, List.drop_zero]
    still_step
    still_step
    still_call (above_any v.eden w1)
    still_step
    still_step
    still_call (above_any v.young w1)
    still_step
    still_step
    still_call (above_any v.ten w1)
    still_step
    still_step
    still_call (above_any v.room w1)
    still_step
    refine wpStill_nil ?_
    change wpList _ _ _ _ _ (w.alloc (.cells #[.int .i64 v.eden, .int .i64 v.young, .int .i64 v.ten, .int .i64 v.room] 67)).drew
    rw [← HW1.out]
    refine wpList_store_row rfl 67 _ _ rfl w.heap.size #[.int .i64 (clip v.eden), .int .i64 (clip v.young), .int .i64 (clip v.ten), .int .i64 (clip v.room)] rfl rfl 67 _ HV1.out (by kernel_rfl) rfl (by simp [Value.oneCell']) ?_
    go_wp2_with fail
    go_meet
    case rel => exact ⟨rfl, HV1.out.row _, HF1.out.row (.inr (Nat.le_refl _)) _⟩
  obtain ⟨rfl, hcut⟩ := hcut
  have HV := Lib.hid hcut.out.1
  have HF := Lib.hid hcut.out.2
  clear hcut
  have HR0 : Hid (RB wc g c kind words first most l true false rv) := HT.out.R.fr HF.out (by simp) (by simp)
  have v0 : wc.cell? ⟨w.heap.size, 0, none⟩ = some (.int .i64 (clip v.eden)) := HV.out.cell 0
  have v1 : wc.cell? ⟨w.heap.size, 1, none⟩ = some (.int .i64 (clip v.young)) := HV.out.cell 1
  have v2 : wc.cell? ⟨w.heap.size, 2, none⟩ = some (.int .i64 (clip v.ten)) := HV.out.cell 2
  have v3 : wc.cell? ⟨w.heap.size, 3, none⟩ = some (.int .i64 (clip v.room)) := HV.out.cell 3
  have h19 : wc.cell? ⟨g, 19, none⟩ = some (.bool true) := HR0.out.B.cell 19
  have hf19 := HR0.out.B.free 19
  have HR5 := HR0
  have HV5 := HV
  have HF5 : Hid (Fr (g :: rv.ownBlock.toList) w wc) := HF.out.mono (by simp)
  clear v0 v1 v2 v3
  go_upto_region 7 with fail
  obtain ⟨w6, hw6⟩ : ∃ w6, w6 = wc.setCell ⟨g, 19, none⟩ (.bool true) := ⟨_, rfl⟩
  have HR6 : Hid (RB w6 g c kind words first most l true false rv) := by subst hw6; exact HR5.out.close
  have HV6 : Hid (Bk w6 w.heap.size 67 #[.int .i64 (clip v.eden), .int .i64 (clip v.young), .int .i64 (clip v.ten), .int .i64 (clip v.room)]) := by subst hw6; exact HV5.out.far (by simp; omega) _
  have HF6 : Hid (Fr (g :: rv.ownBlock.toList) w w6) := by subst hw6; exact HF5.out.setCell (by simp) _
  rw [← hw6]
  clear hw6
  clear h19 hf19
  have h17 : w6.cell? ⟨g, 17, none⟩ = some (.int .i64 most) := HR6.out.B.cell 17
  have h20 : w6.cell? ⟨g, 20, none⟩ = some (.bool false) := HR6.out.B.cell 20
  have hf20 := HR6.out.B.free 20
  have hg6 := HR6.out.B.lt
  have v2 : w6.cell? ⟨w.heap.size, 2, none⟩ = some (.int .i64 (clip v.ten)) := HV6.out.cell 2
  go_quiet (fail)
  clear h17 v2
  go_wp2_with fail
  go_ret
  exact rnext_of HT.out (by rw [HC.out, E.out]) (by simp [cycleOf]) (by rw [HC.out, E.out]; rfl) (by simp) ((RPost.self (HR6.out.dr _).over (((Fr.refl [g] w6).drewN _).setCell (by simp) _)).comp (Or.inl rfl) HF6.out)


set_option maxHeartbeats 1600000 in
theorem rnext_over (g : Nat) (c : Nat → Int) (kind words first most : Int) (s : St) (l : List Int) (rv : Value) (v : Vw) (w : World)
    (T : RT w g c kind words first most s l true true rv)  :
    Calls Tryz.prog 25 #[.pointer (some ⟨g, 0, none⟩), .agg #[.int .i64 v.eden, .int .i64 v.young, .int .i64 v.ten, .int .i64 v.room]] w (RNext g c kind words first most s l rv (clipV v) w) := by
  have HT := Lib.hid T
  have hl := T.ok.len3
  have hg := T.R.B.lt
  have E : Hid (stepOf words most s (clipV v) = (7, .fin)) := by
    have : s.ph = .fin := T.ph
    simp [stepOf, this, Hid]
  have hrb := rv_lt T.R
  clear T
  go_enter Tryz.func25, Tryz.ntmps25
  go_upto_region 1 with fail
  go_cut [3] (fun u wx => u = .pointer (some ⟨w.heap.size, 0, none⟩) ∧ Hid (Bk wx w.heap.size 67 #[.int .i64 (clip v.eden), .int .i64 (clip v.young), .int .i64 (clip v.ten), .int .i64 (clip v.room)] ∧ Fr [] w wx))
  case first =>
    obtain ⟨w1, hw1⟩ : ∃ w1, w1 = (w.alloc (.cells #[.int .i64 v.eden, .int .i64 v.young, .int .i64 v.ten, .int .i64 v.room] 67)).drew := ⟨_, rfl⟩
    have HV1 : Hid (Bk w1 w.heap.size 67 #[.int .i64 v.eden, .int .i64 v.young, .int .i64 v.ten, .int .i64 v.room]) := by subst hw1; exact (Bk.new _ _ _).drew
    have HF1 : Hid (Fr [] w w1) := by subst hw1; exact ((Fr.refl _ _).alloc _).drew
    have HW1 := Lib.hid hw1
    clear hw1
    have v0 : w1.cell? ⟨w.heap.size, 0, none⟩ = some (.int .i64 v.eden) := HV1.out.cell 0
    have v1 : w1.cell? ⟨w.heap.size, 1, none⟩ = some (.int .i64 v.young) := HV1.out.cell 1
    have v2 : w1.cell? ⟨w.heap.size, 2, none⟩ = some (.int .i64 v.ten) := HV1.out.cell 2
    have v3 : w1.cell? ⟨w.heap.size, 3, none⟩ = some (.int .i64 v.room) := HV1.out.cell 3
    refine wp_region_still_tail 13 (by kernel_rfl) (by kernel_rfl) ?_
    change wpStill _ _ (w.alloc (.cells #[.int .i64 v.eden, .int .i64 v.young, .int .i64 v.ten, .int .i64 v.room] 67)).drew _ _ _
    rw [← HW1.out]
    simp only [List.take_succ_cons, List.take_zero, List.drop_succ_cons, List.drop_zero]
    still_step
    still_step
    still_call (above_any v.eden w1)
    still_step
    still_step
    still_call (above_any v.young w1)
    still_step
    still_step
    still_call (above_any v.ten w1)
    still_step
    still_step
    still_call (above_any v.room w1)
    still_step
    refine wpStill_nil ?_
    change wpList _ _ _ _ _ (w.alloc (.cells #[.int .i64 v.eden, .int .i64 v.young, .int .i64 v.ten, .int .i64 v.room] 67)).drew
    rw [← HW1.out]
    refine wpList_store_row rfl 67 _ _ rfl w.heap.size #[.int .i64 (clip v.eden), .int .i64 (clip v.young), .int .i64 (clip v.ten), .int .i64 (clip v.room)] rfl rfl 67 _ HV1.out (by kernel_rfl) rfl (by simp [Value.oneCell']) ?_
    go_wp2_with fail
    go_meet
    case rel => exact ⟨rfl, HV1.out.row _, HF1.out.row (.inr (Nat.le_refl _)) _⟩
  obtain ⟨rfl, hcut⟩ := hcut
  have HV := Lib.hid hcut.out.1
  have HF := Lib.hid hcut.out.2
  clear hcut
  have HR0 : Hid (RB wc g c kind words first most l true true rv) := HT.out.R.fr HF.out (by simp) (by simp)
  have v0 : wc.cell? ⟨w.heap.size, 0, none⟩ = some (.int .i64 (clip v.eden)) := HV.out.cell 0
  have v1 : wc.cell? ⟨w.heap.size, 1, none⟩ = some (.int .i64 (clip v.young)) := HV.out.cell 1
  have v2 : wc.cell? ⟨w.heap.size, 2, none⟩ = some (.int .i64 (clip v.ten)) := HV.out.cell 2
  have v3 : wc.cell? ⟨w.heap.size, 3, none⟩ = some (.int .i64 (clip v.room)) := HV.out.cell 3
  have h19 : wc.cell? ⟨g, 19, none⟩ = some (.bool true) := HR0.out.B.cell 19
  have hf19 := HR0.out.B.free 19
  have HR5 := HR0
  have HV5 := HV
  have HF5 : Hid (Fr (g :: rv.ownBlock.toList) w wc) := HF.out.mono (by simp)
  clear v0 v1 v2 v3
  go_upto_region 7 with fail
  obtain ⟨w6, hw6⟩ : ∃ w6, w6 = wc.setCell ⟨g, 19, none⟩ (.bool true) := ⟨_, rfl⟩
  have HR6 : Hid (RB w6 g c kind words first most l true true rv) := by subst hw6; exact HR5.out.close
  have HV6 : Hid (Bk w6 w.heap.size 67 #[.int .i64 (clip v.eden), .int .i64 (clip v.young), .int .i64 (clip v.ten), .int .i64 (clip v.room)]) := by subst hw6; exact HV5.out.far (by simp; omega) _
  have HF6 : Hid (Fr (g :: rv.ownBlock.toList) w w6) := by subst hw6; exact HF5.out.setCell (by simp) _
  rw [← hw6]
  clear hw6
  clear h19 hf19
  have h17 : w6.cell? ⟨g, 17, none⟩ = some (.int .i64 most) := HR6.out.B.cell 17
  have h20 : w6.cell? ⟨g, 20, none⟩ = some (.bool true) := HR6.out.B.cell 20
  have hf20 := HR6.out.B.free 20
  have hg6 := HR6.out.B.lt
  have v2 : w6.cell? ⟨w.heap.size, 2, none⟩ = some (.int .i64 (clip v.ten)) := HV6.out.cell 2
  go_quiet (fail)
  clear h17 v2
  go_wp2_with fail
  go_ret
  exact rnext_of HT.out (by rw [E.out]) (by simp [cycleOf]) (by rw [E.out]; rfl) (by simp) ((RPost.self (HR6.out.dr _).over (((Fr.refl [g] w6).drewN _).setCell (by simp) _)).comp (Or.inl rfl) HF6.out)


theorem rnext_any (g : Nat) (c : Nat → Int) (kind words first most : Int) (s : St) (l : List Int) (cl ov : Bool) (rv : Value) (v : Vw) (w : World)
    (T : RT w g c kind words first most s l cl ov rv) :
    Calls Tryz.prog 25 #[.pointer (some ⟨g, 0, none⟩), .agg #[.int .i64 v.eden, .int .i64 v.young, .int .i64 v.ten, .int .i64 v.room]] w (RNext g c kind words first most s l rv (clipV v) w) := by
  cases ov with
  | true =>
    have := T.co rfl
    subst this
    exact rnext_over g c kind words first most s l rv v w T
  | false =>
    cases cl with
    | true =>
      by_cases h1 : most < (clipV v).ten
      · rcases Bool.eq_false_or_eq_true s.ma with hm | hm
        · exact rnext_c_ii g c kind words first most s l rv v w T h1 hm
        · exact rnext_c_i g c kind words first most s l rv v w T h1 hm
      · exact rnext_c_iii g c kind words first most s l rv v w T (by omega)
    | false =>
      by_cases hn : (openR words most s (clipV v)).1 = 0
      · by_cases h1 : most < (clipV v).ten
        · rcases Bool.eq_false_or_eq_true s.ma with hm | hm
          · exact rnext_z_ii g c kind words first most s l rv v w T hn h1 hm
          · exact rnext_z_i g c kind words first most s l rv v w T hn h1 hm
        · exact rnext_z_iii g c kind words first most s l rv v w T hn (by omega)
      · exact rnext_open g c kind words first most s l rv v w T hn
end Go.Proofs.YtdcppdgnekhcgaaGreatDoor
