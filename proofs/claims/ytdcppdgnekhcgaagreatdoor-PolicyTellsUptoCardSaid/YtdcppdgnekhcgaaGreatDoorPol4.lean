/-
  The program's Next.
-/
import Derived.Test.YtdcppdgnekhcgaaGreatDoorPol3
import Derived.StillTailTactics
import Derived.Deep.AppendLies
namespace Go.Proofs.YtdcppdgnekhcgaaGreatDoor
open Go.RowKit Pol
set_option maxRecDepth 100000

def ints (l : List Int) : List Value := l.map (Value.int .i64)
def clipV (v : Vw) : Vw := ⟨clip v.eden, clip v.young, clip v.ten, clip v.room⟩

/-- The program's turn: its block g, the row r of its cycles. -/
structure PT (w : World) (g : Nat) (c : Nat → Int) (base limit words : Int) (s : St) (l : List Int) (cyc : Value) : Prop where
  B : Bk w g 100 (turnC c base limit words (ranI s.mi s.al s.ma) cyc (stepV s.ph))
  O : w.ownsRow 0 3 1 cyc l.length (ints l)
  ok : Ok s l
  l0 : 0 ≤ limit
  l1 : limit ≤ 4294967296
  w0 : s.ph = .big → 2 ≤ words
  w1 : words ≤ 9223372036854775807

/-- The step, whatever the turn stands at. -/
theorem step_any (g : Nat) (c : Nat → Int) (base limit words : Int) (s : St) (cyc : Value) (v : Vw) (w : World) (f : FuncId) (hfv : stepV s.ph = .func (.func f) #[] #[])
    (hb : Bk w g 100 (turnC c base limit words (ranI s.mi s.al s.ma) cyc (stepV s.ph))) (l0 : 0 ≤ limit) (l1 : limit ≤ 4294967296) (w0 : s.ph = .big → 2 ≤ words) (w1 : words ≤ 9223372036854775807) :
    Calls Tryz.prog f #[.pointer (some ⟨g, 0, none⟩), .agg #[.int .i64 v.eden, .int .i64 v.young, .int .i64 v.ten, .int .i64 v.room]] w (StepPost g c base limit words (ranI s.mi s.al s.ma) cyc (stepOf words limit s v) w) := by
  cases hp : s.ph with
  | small =>
    rw [hp] at hb hfv
    obtain rfl : f = 60 := by injection hfv with h; injection h with h; exact h.symm
    exact small_any g c base limit words s cyc v w hb hp
  | big =>
    rw [hp] at hb hfv
    obtain rfl : f = 62 := by injection hfv with h; injection h with h; exact h.symm
    exact big_any g c base limit words s cyc v w hb hp l0 l1 (w0 hp) w1
  | minor =>
    rw [hp] at hb hfv
    obtain rfl : f = 63 := by injection hfv with h; injection h with h; exact h.symm
    have e : stepOf words limit s v = forcedStep 3 .minor limit s v := by simp [stepOf, hp, forcedStep]
    rw [e]
    exact minor_any g c base limit words s cyc v w hb
  | all =>
    rw [hp] at hb hfv
    obtain rfl : f = 65 := by injection hfv with h; injection h with h; exact h.symm
    have e : stepOf words limit s v = forcedStep 4 .all limit s v := by simp [stepOf, hp, forcedStep]
    rw [e]
    exact all_any g c base limit words s cyc v w hb
  | major =>
    rw [hp] at hb hfv
    obtain rfl : f = 66 := by injection hfv with h; injection h with h; exact h.symm
    have e : stepOf words limit s v = (5, .closing) := by simp [stepOf, hp]
    rw [e]
    exact major_any g c base limit words _ cyc _ v w hb
  | closing =>
    rw [hp] at hb hfv
    obtain rfl : f = 68 := by injection hfv with h; injection h with h; exact h.symm
    have e : stepOf words limit s v = closeStep limit s v := by simp [stepOf, hp]
    rw [e]
    exact closing_any g c base limit words s cyc v w hb
  | fin =>
    rw [hp] at hb hfv
    obtain rfl : f = 95 := by injection hfv with h; injection h with h; exact h.symm
    have e : stepOf words limit s v = (7, .fin) := by simp [stepOf, hp]
    rw [e]
    exact fin_any g c base limit words _ cyc v w hb

theorem step_func (s : St) : ∃ f, stepV s.ph = .func (.func f) #[] #[] := by cases s.ph <;> exact ⟨_, rfl⟩

theorem step_enters (s : St) (f : FuncId) (h : stepV s.ph = .func (.func f) #[] #[]) (args : Array Value) (W : World) : (callFunc f args).run Tryz.prog W = .ok (.enter f args) W := by
  cases hp : s.ph <;> rw [hp] at h <;> (injection h with h; injection h with h; subst h; kernel_rfl)

theorem alloc_view (w : World) {a b c d a' b' c' d' : Int} (h1 : clip a = a') (h2 : clip b = b') (h3 : clip c = c') (h4 : clip d = d') (t : TypeId) :
    w.alloc (.cells #[.int .i64 (clip a), .int .i64 (clip b), .int .i64 (clip c), .int .i64 (clip d)] t) = w.alloc (.cells #[.int .i64 a', .int .i64 b', .int .i64 c', .int .i64 d'] t) := by
  rw [h1, h2, h3, h4]

/-- What Next answers, and where the turn stands behind it. -/
def NextPost (g : Nat) (c : Nat → Int) (base limit words : Int) (s : St) (l : List Int) (cyc : Value) (v : Vw) (w : World) (e : Ending) (w' : World) : Prop :=
  ∃ cyc', e = .returned (.int .i64 (stepOf words limit s v).1) ∧ PT w' g c base limit words (after words limit s v) (l ++ cycleOf (stepOf words limit s v).1) cyc' ∧
    (cyc'.ownBlock = cyc.ownBlock ∨ ∃ b, cyc'.ownBlock = some b ∧ w.heap.size ≤ b) ∧ Fr (g :: cyc.ownBlock.toList) w w'

theorem int_info : (Tryz.prog.info? 3).map (fun i => (i.zero, i.size, i.bytes)) = some (some (.int .i64 0), 1, 8) := by kernel_rfl

theorem own_bk {w : World} {base b : Nat} {e : TypeId} {size n : Nat} {v : Value} {xs : List Value} (h : w.ownsRow base e size v n xs) (hb : v.ownBlock = some b) : ∃ cs, Bk w b e cs := by
  rcases h.2 with ⟨rfl, _⟩ | ⟨b', cap', cur, rfl, _, h1, _⟩
  · simp [Value.ownBlock] at hb
  · obtain rfl : b' = b := by simpa [Value.ownBlock] using hb
    exact ⟨cur, h1⟩
theorem PT.apart {w : World} {g : Nat} {c : Nat → Int} {base limit words : Int} {s : St} {l : List Int} {cyc : Value} (P : PT w g c base limit words s l cyc) : ∀ k, cyc.ownBlock = some k → k ≠ g := by
  intro k hk
  obtain ⟨cs, hb⟩ := own_bk P.O hk
  exact hb.ne P.B (by decide)

theorem after_words {words limit : Int} {s : St} {v : Vw} (h : s.ph ≠ .big) : (after words limit s v).ph ≠ .big := by
  unfold after stepOf closeStep
  cases hp : s.ph <;> simp_all <;> (repeat' split) <;> simp
theorem after_big {words limit : Int} {s : St} {v : Vw} (h : (after words limit s v).ph = .big) : s.ph = .big := by
  rcases Classical.em (s.ph = .big) with h1 | h1
  · exact h1
  · exact absurd h (after_words h1)

/-- A cycle was run: one number more, one bit more. -/
theorem next_ran {g : Nat} {c : Nat → Int} {base limit words : Int} {s : St} {l : List Int} {cyc : Value} {v : Vw} {w w3 : World} {n x ran' : Int} {b cap : Nat} {cyc0 : Value} (hP : PT w g c base limit words s l cyc)
    (hn : (stepOf words limit s v).1 = n) (hx : cycleOf n = [x]) (hran : ran' = ranI (s.mi || decide (n = 3)) (s.al || decide (n = 4)) (s.ma || decide (n = 5)))
    (hB : Bk w3 g 100 (turnC c base limit words ran' cyc0 (stepV (stepOf words limit s v).2)))
    (hO : w3.ownsRow 0 3 1 (.slice (some ⟨b, 0, none⟩) (l.length + 1) cap) (l.length + 1) (ints l ++ [.int .i64 x])) (hne : g ≠ b) (hat : cyc.ownBlock = some b ∨ w.heap.size ≤ b)
    (hF : Fr (g :: cyc.ownBlock.toList) w w3) : NextPost g c base limit words s l cyc v w (.returned (.int .i64 n)) (w3.setCell ⟨g, 18, none⟩ (.slice (some ⟨b, 0, none⟩) (l.length + 1) cap)) := by
  subst hran
  refine ⟨.slice (some ⟨b, 0, none⟩) (l.length + 1) cap, by rw [hn], ⟨?_, ?_, hP.ok.next words limit v, hP.l0, hP.l1, fun h => hP.w0 (after_big h), hP.w1⟩, ?_, hF.setCell (by simp) _⟩
  · have := hB.put 18 (.slice (some ⟨b, 0, none⟩) (l.length + 1) cap)
    unfold after
    rw [hn]
    exact this
  · have h2 := own_fr hO ((Fr.refl [g] w3).setCell (p := ⟨g, 18, none⟩) (by simp) (.slice (some ⟨b, 0, none⟩) (l.length + 1) cap)) (fun k hk => by
      have : k = b := by simpa [Value.ownBlock] using hk.symm
      subst this
      simpa using Ne.symm hne)
    rw [hn, hx]
    simpa [ints] using h2
  · rcases hat with h | h
    · exact .inl h.symm
    · exact .inr ⟨b, rfl, h⟩

set_option maxHeartbeats 1600000 in
theorem next_any (g : Nat) (c : Nat → Int) (base limit words : Int) (s : St) (l : List Int) (cyc : Value) (v : Vw) (w : World) (hP : PT w g c base limit words s l cyc) :
    Calls Tryz.prog 22 #[.pointer (some ⟨g, 0, none⟩), .agg #[.int .i64 v.eden, .int .i64 v.young, .int .i64 v.ten, .int .i64 v.room]] w (NextPost g c base limit words s l cyc (clipV v) w) := by
  have HP := Lib.hid hP
  have hlt := hP.B.lt
  clear hP
  go_enter Tryz.func22, Tryz.ntmps22
  go_upto_region 1 with fail
  go_cut [3] (fun u wx => u = .pointer (some ⟨w.heap.size, 0, none⟩) ∧ w.alloc (.cells #[.int .i64 (clip v.eden), .int .i64 (clip v.young), .int .i64 (clip v.ten), .int .i64 (clip v.room)] 67) = wx)
  case first =>
    go_wp2_with fail
    all_goals
      go_meet
      case rel => exact ⟨rfl, alloc_view _ (by unfold clip; split <;> omega) (by unfold clip; split <;> omega) (by unfold clip; split <;> omega) (by unfold clip; split <;> omega) _⟩
  obtain ⟨rfl, rfl⟩ := hcut
  obtain ⟨f, hf⟩ := step_func s
  have H19 : Hid (stepV s.ph = .func (.func f) #[] #[]) := hf
  clear hf
  obtain ⟨w1, hw1⟩ : ∃ w1, w1 = (w.alloc (.cells #[.int .i64 (clip v.eden), .int .i64 (clip v.young), .int .i64 (clip v.ten), .int .i64 (clip v.room)] 67)).drew := ⟨_, rfl⟩
  have HV : Hid (Bk w1 w.heap.size 67 #[.int .i64 (clip v.eden), .int .i64 (clip v.young), .int .i64 (clip v.ten), .int .i64 (clip v.room)]) := by subst hw1; exact (Bk.new _ _ _).drew
  have HB1 : Hid (Bk w1 g 100 (turnC c base limit words (ranI s.mi s.al s.ma) cyc (stepV s.ph))) := by subst hw1; exact (HP.out.B.alloc _).drew
  have HF1 : Hid (Fr [g] w w1) := by subst hw1; exact ((Fr.refl _ _).alloc _).drew
  have HW1 := Lib.hid hw1
  clear hw1
  have h19 : w1.cell? ⟨g, 19, none⟩ = some (.func (.func f) #[] #[]) := by rw [← H19.out]; exact HB1.out.cell 19
  have v0 : w1.cell? ⟨w.heap.size, 0, none⟩ = some (.int .i64 (clip v.eden)) := HV.out.cell 0
  have v1 : w1.cell? ⟨w.heap.size, 1, none⟩ = some (.int .i64 (clip v.young)) := HV.out.cell 1
  have v2 : w1.cell? ⟨w.heap.size, 2, none⟩ = some (.int .i64 (clip v.ten)) := HV.out.cell 2
  have v3 : w1.cell? ⟨w.heap.size, 3, none⟩ = some (.int .i64 (clip v.room)) := HV.out.cell 3
  go_upto_region 2 with fail
  go_cut [5] (fun u wx => u = .int .i64 (stepOf words limit s (clipV v)).1 ∧ Hid (Bk wx g 100 (turnC c base limit words (ranI s.mi s.al s.ma) cyc (stepV (stepOf words limit s (clipV v)).2)) ∧ Fr [g] w wx))
  case first =>
    refine wp_region_still_tail 6 (by kernel_rfl) (by kernel_rfl) ?_
    change wpStill _ _ (w.alloc (.cells #[.int .i64 (clip v.eden), .int .i64 (clip v.young), .int .i64 (clip v.ten), .int .i64 (clip v.room)] 67)).drew _ _ _
    rw [← HW1.out]
    simp only [List.take_succ_cons, List.take_zero, List.drop_succ_cons, List.drop_zero]
    repeat still_step
    refine wpStill_nil ?_
    change wpList _ _ _ _ _ (w.alloc (.cells #[.int .i64 (clip v.eden), .int .i64 (clip v.young), .int .i64 (clip v.ten), .int .i64 (clip v.room)] 67)).drew
    rw [← HW1.out]
    have hcf := step_enters s f H19.out
    go_wp2_with fail
    refine (step_any g c base limit words s cyc (clipV v) w1 f H19.out HB1.out HP.out.l0 HP.out.l1 HP.out.w0 HP.out.w1).mono ?_
    rintro e w2 ⟨rfl, hb, hf⟩
    have HB2 := Lib.hid hb
    have HF2 := Lib.hid (HF1.out.trans hf (by simp))
    clear hb hf
    go_wp2_with fail
    go_meet
    case rel => exact ⟨rfl, HB2.out, HF2.out⟩
  obtain ⟨rfl, hcut⟩ := hcut
  have hrange := step_range words limit s (clipV v)
  clear v0 v1 v2 v3 h19
  obtain ⟨n, hn⟩ : ∃ n, (stepOf words limit s (clipV v)).1 = n := ⟨_, rfl⟩
  rw [hn] at hrange ⊢
  have HN := Lib.hid hn
  clear hn
  obtain ⟨i0, hi, hz0, hz1, hz2⟩ := info_parts int_info
  have hO : Hid (wc.ownsRow 0 3 1 cyc l.length (ints l)) := own_fr HP.out.O hcut.out.2 (fun k hk => by simpa using HP.out.apart k hk)
  have h17 : wc.cell? ⟨g, 17, none⟩ = some (.int .i64 (ranI s.mi s.al s.ma)) := hcut.out.1.cell 17
  have h18 : wc.cell? ⟨g, 18, none⟩ = some cyc := hcut.out.1.cell 18
  have hf17 := hcut.out.1.free 17
  have hf18 := hcut.out.1.free 18
  have hgc : g < wc.heap.size := hcut.out.1.lt
  have hlen := HP.out.ok.len3
  by_cases hn3 : n = 3
  · subst hn3
    have hor := or1 s.mi s.al s.ma
    obtain ⟨ran, hr⟩ : ∃ ran, ranI s.mi s.al s.ma = ran := ⟨_, rfl⟩
    obtain ⟨ran', hr'⟩ : ∃ ran', ranI true s.al s.ma = ran' := ⟨_, rfl⟩
    rw [hr] at h17 hor
    rw [hr'] at hor
    have HRR := Lib.hid (And.intro hr hr')
    clear hr hr'
    obtain ⟨wz, hwz⟩ : ∃ wz, wz = wc.setCell ⟨g, 17, none⟩ (.int .i64 ran') := ⟨_, rfl⟩
    have hBz : Hid (Bk wz g 100 (turnC c base limit words ran' cyc (stepV (stepOf words limit s (clipV v)).2))) := by subst hwz; exact hcut.out.1.put 17 _
    have hFz : Hid (Fr [g] w wz) := by subst hwz; exact hcut.out.2.setCell (by simp) _
    have hOz : Hid (wz.ownsRow 0 3 1 cyc l.length (ints l)) := by subst hwz; exact own_fr hO.out ((Fr.refl [g] _).setCell (by simp) _) (fun k hk => by simpa using HP.out.apart k hk)
    have z18 : wz.cell? ⟨g, 18, none⟩ = some cyc := hBz.out.cell 18
    have zf18 := hBz.out.free 18
    have HWZ := Lib.hid hwz
    clear hwz
    go_upto_region 6 with fail
    rw [← HWZ.out]
    clear h17 h18 hf17 hf18
    go_wp2_with (at_builtin; refine wpList_append_lies _ rfl (.tmp 40) (.tmp 41) _ rfl 0 3 i0 (.int .i64 0) 1 8 Tryz.underlying29 hi hz0 hz1 hz2 rfl (by decide) cyc l.length (ints l) rfl (hOz.out.alloc _) ⟨wz.heap.size, 0, none⟩ 1 1 [.int .i64 1] rfl rfl (cell_one_new _ _ _) ?c2 (by decide) ?c3 ?c4 (Nat.zero_le _) _ rfl ?c5)
    case c2 => simp [Value.oneCell']
    case c3 => unfold maxLen; omega
    case c4 => omega
    case c5 =>
      intro b cap w3 hown hgrow hat hlt3
      have hne : g ≠ b := by
        rcases hat with h | h
        · exact fun e => HP.out.apart b h e.symm
        · have := hBz.out.lt
          omega
      have hB3 : Hid (Bk w3 g 100 (turnC c base limit words ran' cyc (stepV (stepOf words limit s (clipV v)).2))) := (hBz.out.alloc _).fr (Fr.of_grown hgrow) (fun h => by
        have := HP.out.apart g (by simpa using h)
        exact this rfl)
      have hF3 : Hid (Fr (g :: cyc.ownBlock.toList) w w3) := ((hFz.out.mono (by simp)).alloc _).grown hgrow (fun k hk => by simp [hk])
      have hat' : Hid (cyc.ownBlock = some b ∨ w.heap.size ≤ b) := by
        rcases hat with h | h
        · exact .inl h
        · right
          have := hFz.out.size
          omega
      have HO3 := Lib.hid hown
      have d18 : w3.cell? ⟨g, 18, none⟩ = some cyc := hB3.out.cell 18
      have df18 := hB3.out.free 18
      clear hown hgrow hat z18 zf18
      go_wp2_with fail
      go_ret
      exact next_ran HP.out HN.out (by rfl) (by rw [← HRR.out.2]; simp) hB3.out HO3.out hne hat'.out hF3.out
  by_cases hn4 : n = 4
  · subst hn4
    have hor := or2 s.mi s.al s.ma
    obtain ⟨ran, hr⟩ : ∃ ran, ranI s.mi s.al s.ma = ran := ⟨_, rfl⟩
    obtain ⟨ran', hr'⟩ : ∃ ran', ranI s.mi true s.ma = ran' := ⟨_, rfl⟩
    rw [hr] at h17 hor
    rw [hr'] at hor
    have HRR := Lib.hid (And.intro hr hr')
    clear hr hr'
    obtain ⟨wz, hwz⟩ : ∃ wz, wz = wc.setCell ⟨g, 17, none⟩ (.int .i64 ran') := ⟨_, rfl⟩
    have hBz : Hid (Bk wz g 100 (turnC c base limit words ran' cyc (stepV (stepOf words limit s (clipV v)).2))) := by subst hwz; exact hcut.out.1.put 17 _
    have hFz : Hid (Fr [g] w wz) := by subst hwz; exact hcut.out.2.setCell (by simp) _
    have hOz : Hid (wz.ownsRow 0 3 1 cyc l.length (ints l)) := by subst hwz; exact own_fr hO.out ((Fr.refl [g] _).setCell (by simp) _) (fun k hk => by simpa using HP.out.apart k hk)
    have z18 : wz.cell? ⟨g, 18, none⟩ = some cyc := hBz.out.cell 18
    have zf18 := hBz.out.free 18
    have HWZ := Lib.hid hwz
    clear hwz
    go_upto_region 9 with fail
    rw [← HWZ.out]
    clear h17 h18 hf17 hf18
    go_wp2_with (at_builtin; refine wpList_append_lies _ rfl (.tmp 58) (.tmp 59) _ rfl 0 3 i0 (.int .i64 0) 1 8 Tryz.underlying29 hi hz0 hz1 hz2 rfl (by decide) cyc l.length (ints l) rfl (hOz.out.alloc _) ⟨wz.heap.size, 0, none⟩ 1 1 [.int .i64 2] rfl rfl (cell_one_new _ _ _) ?c2 (by decide) ?c3 ?c4 (Nat.zero_le _) _ rfl ?c5)
    case c2 => simp [Value.oneCell']
    case c3 => unfold maxLen; omega
    case c4 => omega
    case c5 =>
      intro b cap w3 hown hgrow hat hlt3
      have hne : g ≠ b := by
        rcases hat with h | h
        · exact fun e => HP.out.apart b h e.symm
        · have := hBz.out.lt
          omega
      have hB3 : Hid (Bk w3 g 100 (turnC c base limit words ran' cyc (stepV (stepOf words limit s (clipV v)).2))) := (hBz.out.alloc _).fr (Fr.of_grown hgrow) (fun h => by
        have := HP.out.apart g (by simpa using h)
        exact this rfl)
      have hF3 : Hid (Fr (g :: cyc.ownBlock.toList) w w3) := ((hFz.out.mono (by simp)).alloc _).grown hgrow (fun k hk => by simp [hk])
      have hat' : Hid (cyc.ownBlock = some b ∨ w.heap.size ≤ b) := by
        rcases hat with h | h
        · exact .inl h
        · right
          have := hFz.out.size
          omega
      have HO3 := Lib.hid hown
      have d18 : w3.cell? ⟨g, 18, none⟩ = some cyc := hB3.out.cell 18
      have df18 := hB3.out.free 18
      clear hown hgrow hat z18 zf18
      go_wp2_with fail
      go_ret
      exact next_ran HP.out HN.out (by rfl) (by rw [← HRR.out.2]; simp) hB3.out HO3.out hne hat'.out hF3.out
  by_cases hn5 : n = 5
  · subst hn5
    have hor := or4 s.mi s.al s.ma
    obtain ⟨ran, hr⟩ : ∃ ran, ranI s.mi s.al s.ma = ran := ⟨_, rfl⟩
    obtain ⟨ran', hr'⟩ : ∃ ran', ranI s.mi s.al true = ran' := ⟨_, rfl⟩
    rw [hr] at h17 hor
    rw [hr'] at hor
    have HRR := Lib.hid (And.intro hr hr')
    clear hr hr'
    obtain ⟨wz, hwz⟩ : ∃ wz, wz = wc.setCell ⟨g, 17, none⟩ (.int .i64 ran') := ⟨_, rfl⟩
    have hBz : Hid (Bk wz g 100 (turnC c base limit words ran' cyc (stepV (stepOf words limit s (clipV v)).2))) := by subst hwz; exact hcut.out.1.put 17 _
    have hFz : Hid (Fr [g] w wz) := by subst hwz; exact hcut.out.2.setCell (by simp) _
    have hOz : Hid (wz.ownsRow 0 3 1 cyc l.length (ints l)) := by subst hwz; exact own_fr hO.out ((Fr.refl [g] _).setCell (by simp) _) (fun k hk => by simpa using HP.out.apart k hk)
    have z18 : wz.cell? ⟨g, 18, none⟩ = some cyc := hBz.out.cell 18
    have zf18 := hBz.out.free 18
    have HWZ := Lib.hid hwz
    clear hwz
    go_upto_region 12 with fail
    rw [← HWZ.out]
    clear h17 h18 hf17 hf18
    go_wp2_with (at_builtin; refine wpList_append_lies _ rfl (.tmp 76) (.tmp 77) _ rfl 0 3 i0 (.int .i64 0) 1 8 Tryz.underlying29 hi hz0 hz1 hz2 rfl (by decide) cyc l.length (ints l) rfl (hOz.out.alloc _) ⟨wz.heap.size, 0, none⟩ 1 1 [.int .i64 3] rfl rfl (cell_one_new _ _ _) ?c2 (by decide) ?c3 ?c4 (Nat.zero_le _) _ rfl ?c5)
    case c2 => simp [Value.oneCell']
    case c3 => unfold maxLen; omega
    case c4 => omega
    case c5 =>
      intro b cap w3 hown hgrow hat hlt3
      have hne : g ≠ b := by
        rcases hat with h | h
        · exact fun e => HP.out.apart b h e.symm
        · have := hBz.out.lt
          omega
      have hB3 : Hid (Bk w3 g 100 (turnC c base limit words ran' cyc (stepV (stepOf words limit s (clipV v)).2))) := (hBz.out.alloc _).fr (Fr.of_grown hgrow) (fun h => by
        have := HP.out.apart g (by simpa using h)
        exact this rfl)
      have hF3 : Hid (Fr (g :: cyc.ownBlock.toList) w w3) := ((hFz.out.mono (by simp)).alloc _).grown hgrow (fun k hk => by simp [hk])
      have hat' : Hid (cyc.ownBlock = some b ∨ w.heap.size ≤ b) := by
        rcases hat with h | h
        · exact .inl h
        · right
          have := hFz.out.size
          omega
      have HO3 := Lib.hid hown
      have d18 : w3.cell? ⟨g, 18, none⟩ = some cyc := hB3.out.cell 18
      have df18 := hB3.out.free 18
      clear hown hgrow hat z18 zf18
      go_wp2_with fail
      go_ret
      exact next_ran HP.out HN.out (by rfl) (by rw [← HRR.out.2]; simp) hB3.out HO3.out hne hat'.out hF3.out
  have b3 : (n == 3) = false := by rw [beq_eq_false_iff_ne]; exact hn3
  have b4 : (n == 4) = false := by rw [beq_eq_false_iff_ne]; exact hn4
  have b5 : (n == 5) = false := by rw [beq_eq_false_iff_ne]; exact hn5
  have HNN := Lib.hid (And.intro hn3 (And.intro hn4 hn5))
  clear hn3 hn4 hn5
  go_wp2_with fail
  go_ret
  obtain ⟨n3, n4, n5⟩ := HNN.out
  have hc : cycleOf n = [] := by simp [cycleOf, n3, n4, n5]
  refine ⟨cyc, by rw [HN.out]; rfl, ⟨?_, by rw [HN.out, hc]; simpa using hO.out, HP.out.ok.next words limit (clipV v), HP.out.l0, HP.out.l1, fun h => HP.out.w0 (after_big h), HP.out.w1⟩, .inl rfl, hcut.out.2.mono (by simp)⟩
  have := hcut.out.1
  unfold after
  rw [HN.out]
  simpa [n3, n4, n5] using this
end Go.Proofs.YtdcppdgnekhcgaaGreatDoor
