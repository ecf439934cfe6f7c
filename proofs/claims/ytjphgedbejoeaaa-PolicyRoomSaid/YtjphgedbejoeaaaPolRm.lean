/-
  A memory in numbers: the law's own functions.
-/
import Derived.Test.YtjphgedbejoeaaaPol1
import Derived.Test.YtjphgedbejoeaaaPolRoomPlain
import Derived.StillTailTactics
import Derived.IntWalk
import Derived.Deep.DeepCutAuto
namespace Go.Proofs.Ytjphgedbejoeaaa
open Go.RowKit Pol
set_option linter.unusedVariables false

def worldA (c : Nat → Int) (x : Wd) : Array Value := #[.int .i64 (c 0), .int .i64 (c 1), .int .i64 (c 2), .int .i64 (c 3), .int .i64 (c 4), .int .i64 (c 5), .int .i64 (c 6), .int .i64 (c 7), .int .i64 (c 8), .int .i64 (c 9), .int .i64 (c 10), .int .i64 (c 11), .int .i64 (c 12), .int .i64 (c 13), .int .i64 x.el, .int .i64 x.ed, .int .i64 x.fl, .int .i64 x.fd, .int .i64 x.ol, .int .i64 x.od]
def memA (c : Nat → Int) (yl yd tl td base words sv pr : Int) : Array Value := #[.int .i64 (c 0), .int .i64 (c 1), .int .i64 (c 2), .int .i64 (c 3), .int .i64 (c 4), .int .i64 (c 5), .int .i64 (c 6), .int .i64 (c 7), .int .i64 (c 8), .int .i64 (c 9), .int .i64 (c 10), .int .i64 (c 11), .int .i64 (c 12), .int .i64 (c 13), .int .i64 yl, .int .i64 yd, .int .i64 tl, .int .i64 td, .int .i64 base, .int .i64 words, .int .i64 sv, .int .i64 pr]

theorem ret_int' {k : IntKind} {a b : Int} (h : a = b) : Ending.returned (.int k a) = .returned (.int k b) := by rw [h]
theorem part_any (n p : Int) (w : World) (h0 : 0 ≤ n) (h1 : n ≤ 1000000) : Calls Try.prog 39 #[.int .i64 n, .int .i64 p] w fun e w' => e = .returned (.int .i64 (partI n p)) ∧ w' = w := by
  obtain ⟨q, hq, hc⟩ : ∃ q, pct p = q ∧ ((p < 0 ∧ q = 0) ∨ (100 < p ∧ q = 100) ∨ (0 ≤ p ∧ p ≤ 100 ∧ q = p)) := by
    refine ⟨_, rfl, ?_⟩
    unfold pct
    split
    · exact .inl ⟨by omega, rfl⟩
    · split
      · exact .inr (.inl ⟨by omega, rfl⟩)
      · exact .inr (.inr ⟨by omega, by omega, rfl⟩)
  have hE : partI n p = n * q / 100 := by unfold partI; rw [hq]
  rw [hE]
  have hm : 0 ≤ n * q ∧ n * q ≤ 100000000 := by
    have hq2 := pct_bound p
    rw [hq] at hq2
    exact ⟨Int.mul_nonneg h0 hq2.1, Int.le_trans (Int.mul_le_mul_of_nonneg_left hq2.2 h0) (by omega)⟩
  have hd : (n * q).tdiv 100 = n * q / 100 := Int.tdiv_eq_ediv_of_nonneg hm.1
  clear hE hq
  rcases hc with ⟨hp, rfl⟩ | ⟨hp, rfl⟩ | ⟨hp, hp', rfl⟩
  · go_enter Try.func39, Try.ntmps39
    go_wp2
    go_ret
    refine ⟨?_, rfl⟩
    simp
  · go_enter Try.func39, Try.ntmps39
    go_wp2
    go_ret
    refine ⟨?_, rfl⟩
    refine ret_int' ?_
    omega
  · go_enter Try.func39, Try.ntmps39
    go_wp2
    go_ret
    refine ⟨?_, rfl⟩
    refine ret_int' ?_
    omega

/-- The numbers of a memory that is in order are small. -/
structure Small (c : Nat → Int) (x : Wd) : Prop where
  e0 : 0 ≤ c 0 ∧ c 0 ≤ 65536
  e1 : 0 ≤ c 1 ∧ c 1 ≤ 65536
  e2 : 0 ≤ c 2 ∧ c 2 ≤ 65536
  ok : WOk (c 0) (c 2) x

theorem Bk.rows {w : World} {g : Nat} {t : TypeId} {cs : Array Value} (h : Bk w g t cs) (cs' : Array Value) : Bk (w.setRow g cs') g t cs' := setRow_heap w g cs cs' t (0, 0) h
theorem Fr.rows {S : List Nat} {a b : World} (h : Fr S a b) {g : Nat} (hg : g ∈ S ∨ a.heap.size ≤ g) (cs : Array Value) : Fr S a (b.setRow g cs) :=
  ⟨h.os, h.tape, h.output, by simpa [World.setRow] using h.size, fun k hk hn => (setRow_other b g k cs (fun e => by subst e; rcases hg with e | e; exact hn e; omega)).trans (h.block k hk hn)⟩
theorem wview_any (g : Nat) (c : Nat → Int) (x : Wd) (w : World) (hb : Bk w g 53 (worldA c x)) (hs : Small c x) :
    Calls Try.prog 21 #[.pointer (some ⟨g, 0, none⟩)] w fun e w' =>
      e = .returned (.agg #[.int .i64 (viewW (c 0) (c 2) x).eden, .int .i64 (viewW (c 0) (c 2) x).young, .int .i64 (viewW (c 0) (c 2) x).ten, .int .i64 (viewW (c 0) (c 2) x).room]) ∧ Fr [] w w' := by
  have hlt := hb.lt
  obtain ⟨⟨a0, a1⟩, ⟨b0, b1⟩, ⟨d0, d1⟩, ⟨h1, h2, h3, h4, h5, h6, h7, h8, h9⟩⟩ := hs
  obtain ⟨el, ed, fl, fd, ol, od⟩ := x
  simp only at h1 h2 h3 h4 h5 h6 h7 h8 h9
  have c0 : w.cell? ⟨g, 0, none⟩ = some (.int .i64 (c 0)) := hb.cell 0
  have c2 : w.cell? ⟨g, 2, none⟩ = some (.int .i64 (c 2)) := hb.cell 2
  have c14 : w.cell? ⟨g, 14, none⟩ = some (.int .i64 el) := hb.cell 14
  have c15 : w.cell? ⟨g, 15, none⟩ = some (.int .i64 ed) := hb.cell 15
  have c16 : w.cell? ⟨g, 16, none⟩ = some (.int .i64 fl) := hb.cell 16
  have c17 : w.cell? ⟨g, 17, none⟩ = some (.int .i64 fd) := hb.cell 17
  have c18 : w.cell? ⟨g, 18, none⟩ = some (.int .i64 ol) := hb.cell 18
  have c19 : w.cell? ⟨g, 19, none⟩ = some (.int .i64 od) := hb.cell 19
  have HB := Lib.hid hb
  clear hb c0 c2 c14 c15 c16 c17 c18 c19
  generalize hE : c 0 = E at *
  generalize hT : c 2 = T at *
  have HE0 := Lib.hid hE
  have HT0 := Lib.hid hT
  clear hE hT
  go_enter Try.func21, Try.ntmps21
  go_upto_region 1 with fail
  obtain ⟨w1, hw1⟩ : ∃ w1, w1 = (w.alloc (.cells #[.int .i64 0, .int .i64 0, .int .i64 0, .int .i64 0] 40)).drew := ⟨_, rfl⟩
  have HB1 : Hid (Bk w1 g 53 (worldA c ⟨el, ed, fl, fd, ol, od⟩)) := by subst hw1; exact (HB.out.alloc _).drew
  have HV1 : Hid (Bk w1 w.heap.size 40 #[.int .i64 0, .int .i64 0, .int .i64 0, .int .i64 0]) := by subst hw1; exact (Bk.new _ _ _).drew
  have HF1 : Hid (Fr [] w w1) := by subst hw1; exact ((Fr.refl _ _).alloc _).drew
  have HW1 := Lib.hid hw1
  clear hw1
  have c0 : w1.cell? ⟨g, 0, none⟩ = some (.int .i64 E) := by rw [HB1.out.cell 0, ← HE0.out]; rfl
  have c2 : w1.cell? ⟨g, 2, none⟩ = some (.int .i64 T) := by rw [HB1.out.cell 2, ← HT0.out]; rfl
  have c14 : w1.cell? ⟨g, 14, none⟩ = some (.int .i64 el) := HB1.out.cell 14
  have c15 : w1.cell? ⟨g, 15, none⟩ = some (.int .i64 ed) := HB1.out.cell 15
  have c16 : w1.cell? ⟨g, 16, none⟩ = some (.int .i64 fl) := HB1.out.cell 16
  have c17 : w1.cell? ⟨g, 17, none⟩ = some (.int .i64 fd) := HB1.out.cell 17
  have c18 : w1.cell? ⟨g, 18, none⟩ = some (.int .i64 ol) := HB1.out.cell 18
  have c19 : w1.cell? ⟨g, 19, none⟩ = some (.int .i64 od) := HB1.out.cell 19
  have s0 : IntKind.i64.wrap (E - el) = E - el := IntWalk.i64_in _ (by omega)
  have s1 : IntKind.i64.wrap (E - el - ed) = E - el - ed := IntWalk.i64_in _ (by omega)
  have s2 : IntKind.i64.wrap (el + ed) = el + ed := IntWalk.i64_in _ (by omega)
  have s3 : IntKind.i64.wrap (el + ed + fl) = el + ed + fl := IntWalk.i64_in _ (by omega)
  have s4 : IntKind.i64.wrap (el + ed + fl + fd) = el + ed + fl + fd := IntWalk.i64_in _ (by omega)
  have s5 : IntKind.i64.wrap (ol + od) = ol + od := IntWalk.i64_in _ (by omega)
  have s6 : IntKind.i64.wrap (T - ol) = T - ol := IntWalk.i64_in _ (by omega)
  have s7 : IntKind.i64.wrap (T - ol - od) = T - ol - od := IntWalk.i64_in _ (by omega)
  refine wp_region_still_tail 59 (by kernel_rfl) (by kernel_rfl) ?_
  change wpStill _ _ (w.alloc (.cells #[.int .i64 0, .int .i64 0, .int .i64 0, .int .i64 0] 40)).drew _ _ _
  rw [← HW1.out]
  simp only [List.take_succ_cons, List.take_zero, List.drop_succ_cons, List.drop_zero]
  repeat still_step
  refine wpStill_nil ?_
  change wpList _ _ _ _ _ (w.alloc (.cells #[.int .i64 0, .int .i64 0, .int .i64 0, .int .i64 0] 40)).drew
  rw [← HW1.out]
  clear s0 s1 s2 s3 s4 s5 s6 s7
  refine wpList_store_row rfl 40 _ _ rfl w.heap.size #[.int .i64 (E - el - ed), .int .i64 (el + ed + fl + fd), .int .i64 (ol + od), .int .i64 (T - ol - od)] rfl rfl 40 _ HV1.out (by kernel_rfl) rfl (by simp [Value.oneCell']) ?_
  have HV2 := Lib.hid (HV1.out.rows #[.int .i64 (E - el - ed), .int .i64 (el + ed + fl + fd), .int .i64 (ol + od), .int .i64 (T - ol - od)])
  have HF2 := Lib.hid (HF1.out.rows (.inr (Nat.le_refl _)) #[.int .i64 (E - el - ed), .int .i64 (el + ed + fl + fd), .int .i64 (ol + od), .int .i64 (T - ol - od)])
  generalize w1.setRow w.heap.size #[.int .i64 (E - el - ed), .int .i64 (el + ed + fl + fd), .int .i64 (ol + od), .int .i64 (T - ol - od)] = w2 at *
  have v0 : w2.cell? ⟨w.heap.size, 0, none⟩ = some (.int .i64 (E - el - ed)) := HV2.out.cell 0
  have v1 : w2.cell? ⟨w.heap.size, 1, none⟩ = some (.int .i64 (el + ed + fl + fd)) := HV2.out.cell 1
  have v2 : w2.cell? ⟨w.heap.size, 2, none⟩ = some (.int .i64 (ol + od)) := HV2.out.cell 2
  have v3 : w2.cell? ⟨w.heap.size, 3, none⟩ = some (.int .i64 (T - ol - od)) := HV2.out.cell 3
  go_wp2_with fail
  exact bodyPost_ret (v := .agg #[.int .i64 (E - el - ed), .int .i64 (el + ed + fl + fd), .int .i64 (ol + od), .int .i64 (T - ol - od)]) (by simp [results, Try.results21, go_sem, v0, v1, v2, v3]) rfl ⟨rfl, HF2.out⟩

theorem qadd {P : Program} {f : FuncId} {args : Array Value} {w : World} {a n : Nat} {v : Value}
    (h : Calls P f args (w.drewN (a + n)) fun e w' => e = .returned v ∧ w' = w.drewN (a + n)) :
    Calls P f args (w.drewN (a + n)) fun e w'' => e = .returned v ∧ ∃ m, w'' = w.drewN (a + m) :=
  h.mono fun _ _ ⟨he, hm⟩ => ⟨he, n, hm⟩
theorem minor_t (S sv pr : Int) {el ed fl fd ol od dead up0 : Int} (hd : partI (ed + fd) sv = dead) (hu : partI (el + fl) pr = up0) :
    minorW S true sv pr ⟨el, ed, fl, fd, ol, od⟩ = ⟨0, 0, 0, 0, ol + (el + fl), od + dead⟩ := by
  simp [minorW, hd]
theorem minor_f1 (S sv pr : Int) {el ed fl fd ol od dead up0 : Int} (hd : partI (ed + fd) sv = dead) (hu : partI (el + fl) pr = up0) (h1 : S < el + fl + dead - up0) (h2 : S < dead) :
    minorW S false sv pr ⟨el, ed, fl, fd, ol, od⟩ = ⟨0, 0, 0, 0, ol + (el + fl), od + dead⟩ := by
  simp only [minorW, hd, hu]
  simp only [Bool.false_eq_true, false_or, h1, if_true, Int.sub_self, Int.zero_add, decide_eq_true_eq, h2]
theorem minor_f2 (S sv pr : Int) {el ed fl fd ol od dead up0 : Int} (hd : partI (ed + fd) sv = dead) (hu : partI (el + fl) pr = up0) (h1 : S < el + fl + dead - up0) (h2 : ¬ S < dead) :
    minorW S false sv pr ⟨el, ed, fl, fd, ol, od⟩ = ⟨0, 0, 0, dead, ol + (el + fl), od⟩ := by
  simp only [minorW, hd, hu]
  simp only [Bool.false_eq_true, false_or, h1, if_true, if_false, Int.sub_self, Int.zero_add, decide_eq_true_eq, h2]
theorem minor_f3 (S sv pr : Int) {el ed fl fd ol od dead up0 : Int} (hd : partI (ed + fd) sv = dead) (hu : partI (el + fl) pr = up0) (h1 : ¬ S < el + fl + dead - up0) :
    minorW S false sv pr ⟨el, ed, fl, fd, ol, od⟩ = ⟨0, 0, el + fl - up0, dead, ol + up0, od⟩ := by
  have h2 : ¬ S < el + fl - up0 + dead := by omega
  simp only [minorW, hd, hu]
  simp only [Bool.false_eq_true, false_or, h1, if_false, decide_eq_true_eq, h2]
set_option maxHeartbeats 800000 in
theorem wminor_any (g : Nat) (c : Nat → Int) (x : Wd) (all : Bool) (yl yd tl td base words sv pr : Int) (w : World) (hb : Bk w g 53 (worldA c x)) (hs : Small c x) :
    Calls Try.prog 22 #[.pointer (some ⟨g, 0, none⟩), .bool all, .agg (memA c yl yd tl td base words sv pr)] w fun e w' =>
      e = .returned (.tuple #[]) ∧ Bk w' g 53 (worldA c (minorW (c 1) all sv pr x)) ∧ Fr [g] w w' := by
  have HB := Lib.hid hb
  have hlt := hb.lt
  obtain ⟨⟨a0, a1⟩, ⟨b0, b1⟩, ⟨d0, d1⟩, ⟨h1, h2, h3, h4, h5, h6, h7, h8, h9⟩⟩ := hs
  obtain ⟨el, ed, fl, fd, ol, od⟩ := x
  simp only at h1 h2 h3 h4 h5 h6 h7 h8 h9
  have c1 : w.cell? ⟨g, 1, none⟩ = some (.int .i64 (c 1)) := hb.cell 1
  have c14 : w.cell? ⟨g, 14, none⟩ = some (.int .i64 el) := hb.cell 14
  have c15 : w.cell? ⟨g, 15, none⟩ = some (.int .i64 ed) := hb.cell 15
  have c16 : w.cell? ⟨g, 16, none⟩ = some (.int .i64 fl) := hb.cell 16
  have c17 : w.cell? ⟨g, 17, none⟩ = some (.int .i64 fd) := hb.cell 17
  have c18 : w.cell? ⟨g, 18, none⟩ = some (.int .i64 ol) := hb.cell 18
  have c19 : w.cell? ⟨g, 19, none⟩ = some (.int .i64 od) := hb.cell 19
  clear hb
  have hd := part_bound sv (show 0 ≤ ed + fd by omega)
  have hu := part_bound pr (show 0 ≤ el + fl by omega)
  obtain ⟨dead, hdead⟩ : ∃ d, partI (ed + fd) sv = d := ⟨_, rfl⟩
  obtain ⟨up0, hup0⟩ : ∃ u, partI (el + fl) pr = u := ⟨_, rfl⟩
  rw [hdead] at hd
  rw [hup0] at hu
  have HD := Lib.hid hdead
  have HU := Lib.hid hup0
  clear hdead hup0
  clear c1 c14 c15 c16 c17 c18 c19
  have HB1 := Lib.hid (HB.out.alloc (.cells (memA c yl yd tl td base words sv pr) 49))
  have HM1 := Lib.hid (Bk.new w 49 (memA c yl yd tl td base words sv pr))
  have HF1 := Lib.hid ((Fr.refl [g] w).alloc (.cells (memA c yl yd tl td base words sv pr) 49))
  go_enter Try.func22, Try.ntmps22
  go_upto_region 1 with fail
  change Code.wp _ _ _ _ (w.alloc (.cells (memA c yl yd tl td base words sv pr) 49))
  generalize w.alloc (.cells (memA c yl yd tl td base words sv pr) 49) = W1 at *
  have c1 : W1.cell? ⟨g, 1, none⟩ = some (.int .i64 (c 1)) := HB1.out.cell 1
  have c14 : W1.cell? ⟨g, 14, none⟩ = some (.int .i64 el) := HB1.out.cell 14
  have c15 : W1.cell? ⟨g, 15, none⟩ = some (.int .i64 ed) := HB1.out.cell 15
  have c16 : W1.cell? ⟨g, 16, none⟩ = some (.int .i64 fl) := HB1.out.cell 16
  have c17 : W1.cell? ⟨g, 17, none⟩ = some (.int .i64 fd) := HB1.out.cell 17
  have c18 : W1.cell? ⟨g, 18, none⟩ = some (.int .i64 ol) := HB1.out.cell 18
  have c19 : W1.cell? ⟨g, 19, none⟩ = some (.int .i64 od) := HB1.out.cell 19
  have m20 : W1.cell? ⟨w.heap.size, 20, none⟩ = some (.int .i64 sv) := HM1.out.cell 20
  have m21 : W1.cell? ⟨w.heap.size, 21, none⟩ = some (.int .i64 pr) := HM1.out.cell 21
  go_quiet (fail)
  go_wp2_with fail
  have s0 : IntKind.i64.wrap (ed + fd) = ed + fd := IntWalk.i64_in _ (by omega)
  have HPt : ∀ (m : Nat), Calls Try.prog 39 #[.int .i64 (ed + fd), .int .i64 sv] (W1.drewN m) fun e w' => e = .returned (.int .i64 dead) ∧ w' = W1.drewN m := fun m => by
    have h := part_any (ed + fd) sv (W1.drewN m) (by omega) (by omega)
    rw [HD.out] at h
    exact h
  have HPT := Lib.hid HPt
  clear HPt
  go_quiet ((go_at_call 39; (first | exact qadd (HPT.out _) | exact Calls.quiet_of_same (HPT.out _) | (go_goals; fail))))
  clear s0
  go_wp2_with fail
  have HPu := Lib.hid (part_any (el + fl) pr)
  refine (HPu.out _ (by omega) (by omega)).mono ?_
  rintro e w2 ⟨rfl, h⟩
  rw [HU.out]
  obtain ⟨W2, hW2⟩ : ∃ W2, w2 = W2 := ⟨_, rfl⟩
  have hfr : Fr [] W1 W2 := by rw [← hW2, h]; exact (Fr.refl _ _).drewN _
  clear h
  subst hW2
  clear HPT HPu c1 c14 c15 c16 c17 c18 c19 m20 m21
  have HB2 := Lib.hid (HB1.out.fr hfr (by simp))
  have HF2 := Lib.hid (HF1.out.trans hfr (by simp))
  clear hfr HB1 HF1 HM1
  have c1 : w2.cell? ⟨g, 1, none⟩ = some (.int .i64 (c 1)) := HB2.out.cell 1
  have f1 := HB2.out.free
  have hlt2 := HB2.out.lt
  have c14 : w2.cell? ⟨g, 14, none⟩ = some (.int .i64 el) := HB2.out.cell 14
  have c15 : w2.cell? ⟨g, 15, none⟩ = some (.int .i64 ed) := HB2.out.cell 15
  have c16 : w2.cell? ⟨g, 16, none⟩ = some (.int .i64 fl) := HB2.out.cell 16
  have c17 : w2.cell? ⟨g, 17, none⟩ = some (.int .i64 fd) := HB2.out.cell 17
  have c18 : w2.cell? ⟨g, 18, none⟩ = some (.int .i64 ol) := HB2.out.cell 18
  have c19 : w2.cell? ⟨g, 19, none⟩ = some (.int .i64 od) := HB2.out.cell 19
  cases all with
  | true =>
    have HE := Lib.hid (minor_t (ol := ol) (od := od) (c 1) sv pr HD.out HU.out)
    clear HB HD HU
    go_wp2_with fail
    go_returns
    rw [HE.out]
    exact ⟨rfl, ((((((((((((HB2.out).put 19 _)).put 18 _)).put 14 _)).put 15 _)).put 16 _)).put 17 _), ((((((((((((HF2.out).setCell (p := ⟨g, 19, none⟩) (by simp) _)).setCell (p := ⟨g, 18, none⟩) (by simp) _)).setCell (p := ⟨g, 14, none⟩) (by simp) _)).setCell (p := ⟨g, 15, none⟩) (by simp) _)).setCell (p := ⟨g, 16, none⟩) (by simp) _)).setCell (p := ⟨g, 17, none⟩) (by simp) _)⟩
  | false =>
    by_cases hc1 : c 1 < el + fl + dead - up0
    · by_cases hc2 : c 1 < dead
      · have HE := Lib.hid (minor_f1 (ol := ol) (od := od) (c 1) sv pr HD.out HU.out hc1 hc2)
        clear HB HD HU
        go_wp2_with fail
        go_returns
        rw [HE.out]
        exact ⟨rfl, ((((((((((((HB2.out).put 19 _)).put 18 _)).put 14 _)).put 15 _)).put 16 _)).put 17 _), ((((((((((((HF2.out).setCell (p := ⟨g, 19, none⟩) (by simp) _)).setCell (p := ⟨g, 18, none⟩) (by simp) _)).setCell (p := ⟨g, 14, none⟩) (by simp) _)).setCell (p := ⟨g, 15, none⟩) (by simp) _)).setCell (p := ⟨g, 16, none⟩) (by simp) _)).setCell (p := ⟨g, 17, none⟩) (by simp) _)⟩
      · have hd2 : decide (c 1 < dead) = false := by simpa using hc2
        have HE := Lib.hid (minor_f2 (ol := ol) (od := od) (c 1) sv pr HD.out HU.out hc1 hc2)
        clear HB HD HU
        go_wp2_with fail
        go_returns
        rw [HE.out]
        exact ⟨rfl, ((((((((((HB2.out).put 18 _)).put 14 _)).put 15 _)).put 16 _)).put 17 _), ((((((((((HF2.out).setCell (p := ⟨g, 18, none⟩) (by simp) _)).setCell (p := ⟨g, 14, none⟩) (by simp) _)).setCell (p := ⟨g, 15, none⟩) (by simp) _)).setCell (p := ⟨g, 16, none⟩) (by simp) _)).setCell (p := ⟨g, 17, none⟩) (by simp) _)⟩
    · have hd1 : decide (c 1 < el + fl + dead - up0) = false := by simpa using hc1
      have hd2 : decide (c 1 < el + fl - up0 + dead) = false := by simp; omega
      have HE := Lib.hid (minor_f3 (ol := ol) (od := od) (c 1) sv pr HD.out HU.out hc1)
      clear HB HD HU
      go_wp2_with fail
      go_returns
      rw [HE.out]
      exact ⟨rfl, ((((((((((HB2.out).put 18 _)).put 14 _)).put 15 _)).put 16 _)).put 17 _), ((((((((((HF2.out).setCell (p := ⟨g, 18, none⟩) (by simp) _)).setCell (p := ⟨g, 14, none⟩) (by simp) _)).setCell (p := ⟨g, 15, none⟩) (by simp) _)).setCell (p := ⟨g, 16, none⟩) (by simp) _)).setCell (p := ⟨g, 17, none⟩) (by simp) _)⟩
end Go.Proofs.Ytjphgedbejoeaaa
