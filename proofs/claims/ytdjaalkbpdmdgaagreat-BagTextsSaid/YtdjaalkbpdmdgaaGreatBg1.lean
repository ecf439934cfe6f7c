/-
  Bag: stacks and queues of whole numbers: New, Push | Put, Pop | Take, Len.
-/
import Derived.Test.YtdjaalkbpdmdgaaGreatRows
import Derived.Test.YtdjaalkbpdmdgaaGreatLst
import Derived.Deep.DeepCutAuto
import Derived.Deep.QuietTactic
import Derived.BigQuiet
import Derived.IntWalk
import Derived.Laws.EntriesVeiled
import Derived.Deep.AppendLies
import Derived.WalkSpells
namespace Go.Proofs.YtdjaalkbpdmdgaaGreat
open Go.RowKit
set_option linter.unusedVariables false

theorem info_parts' {P : Program} {t : TypeId} {z : Value} {s b : Nat} (h : (P.info? t).map (fun i => (i.zero, i.size, i.bytes)) = some (some z, s, b)) : ∃ i, P.info? t = some i ∧ i.zero = some z ∧ i.size = s ∧ i.bytes = b := by
  cases hi : P.info? t with
  | none => rw [hi] at h; cases h
  | some i =>
    rw [hi] at h
    simp only [Option.map_some, Option.some.injEq, Prod.mk.injEq] at h
    exact ⟨i, rfl, h.1, h.2.1, h.2.2⟩
theorem int_info : (Tryz.prog.info? 3).map (fun i => (i.zero, i.size, i.bytes)) = some (some (.int .i64 0), 1, 8) := by kernel_rfl

theorem qadd {P : Program} {f : FuncId} {args : Array Value} {w : World} {a n : Nat} {v : Value}
    (h : Calls P f args (w.drewN (a + n)) fun e w' => e = .returned v ∧ w.drewN (a + n) = w') :
    Calls P f args (w.drewN (a + n)) fun e w'' => e = .returned v ∧ ∃ m, w'' = w.drewN (a + m) :=
  h.mono fun _ _ ⟨he, hm⟩ => ⟨he, n, hm.symm⟩
theorem qleft {P : Program} {f : FuncId} {args : Array Value} {w : World} {n : Nat} {v : Value}
    (h : Calls P f args (w.drewN n) fun e w' => e = .returned v ∧ w.drewN n = w') : Calls P f args (w.drewN n) fun e w'' => e = .returned v ∧ ∃ m, w'' = w.drewN m :=
  h.mono fun _ _ ⟨he, hm⟩ => ⟨he, n, hm.symm⟩

theorem num_any (n : Int) (w : World) : Calls Tryz.prog 16 #[.int .i64 n] w fun e w' => e = .returned (.int .i64 n) ∧ w = w' := by
  go_enter Tryz.func16, Tryz.ntmps16
  go_wp2_with fail
  go_ret
  exact ⟨rfl, rfl⟩

def fullB (n : Nat) (most : Int) : Bool := decide (0 < most) && decide (most ≤ (n : Int))
theorem full_any (n : Nat) (most : Int) (w : World) : Calls Tryz.prog 76 #[.int .i64 (n : Nat), .int .i64 most] w fun e w' => e = .returned (.bool (fullB n most)) ∧ w = w' := by
  unfold fullB
  by_cases h0 : 0 < most
  · by_cases h1 : most ≤ (n : Int)
    · have d0 : decide (0 < most) = true := decide_eq_true h0
      have d1 : decide (most ≤ (n : Int)) = true := decide_eq_true h1
      go_enter Tryz.func76, Tryz.ntmps76
      go_wp2_with fail
      go_ret
      exact ⟨by simp [h0, h1], rfl⟩
    · have d0 : decide (0 < most) = true := decide_eq_true h0
      have d1 : decide (most ≤ (n : Int)) = false := decide_eq_false h1
      go_enter Tryz.func76, Tryz.ntmps76
      go_wp2_with fail
      go_ret
      exact ⟨by simp [h1], rfl⟩
  · have d0 : decide (0 < most) = false := decide_eq_false h0
    go_enter Tryz.func76, Tryz.ntmps76
    go_wp2_with fail
    go_ret
    exact ⟨by simp, rfl⟩

def iV (l : List Int) : List Value := l.map (Value.int .i64)
theorem iV_at {l : List Int} {i : Nat} {x : Int} (h : l[i]? = some x) : (iV l)[i]? = some (.int .i64 x) := by
  unfold iV
  rw [List.getElem?_map, h]
  rfl
theorem iV_length (l : List Int) : (iV l).length = l.length := by simp [iV]

/-- A stack or a queue (t: which): its list in a block of its own. -/
structure Sk (t : TypeId) (b0 : Nat) (w : World) (g : Nat) (most : Int) (v : Value) (l : List Int) : Prop where
  B : Bk w g t #[.int .i64 most, v]
  L : Lst w b0 3 1 v l.length (iV l)
  b : b0 ≤ g
theorem Sk.fr {t : TypeId} {b0 : Nat} {w w' : World} {g : Nat} {most : Int} {v : Value} {l : List Int} {S : List Nat} (h : Sk t b0 w g most v l) (hf : Fr S w w') (h1 : g ∉ S) (h2 : ∀ k, v.ownBlock = some k → k ∉ S) : Sk t b0 w' g most v l :=
  ⟨h.B.fr hf h1, h.L.fr hf h2, h.b⟩
/-- Its own blocks. -/
def skT (g : Nat) (v : Value) : List Nat := g :: v.ownBlock.toList
theorem Sk.base {t : TypeId} {b0 : Nat} {w : World} {g : Nat} {most : Int} {v : Value} {l : List Int} (h : Sk t b0 w g most v l) : ∀ x ∈ skT g v, b0 ≤ x := by
  intro x hx
  simp only [skT, List.mem_cons, Option.mem_toList] at hx
  rcases hx with rfl | hx
  · exact h.b
  · exact (h.L.lt x hx).1
theorem Sk.lt {t : TypeId} {b0 : Nat} {w : World} {g : Nat} {most : Int} {v : Value} {l : List Int} (h : Sk t b0 w g most v l) : ∀ x ∈ skT g v, x < w.heap.size := by
  intro x hx
  simp only [skT, List.mem_cons, Option.mem_toList] at hx
  rcases hx with rfl | hx
  · exact h.B.lt
  · exact (h.L.lt x hx).2

/-- What a call leaves: the list turned so; only its own blocks and new ones were written. -/
def SkTo (t : TypeId) (b0 : Nat) (g : Nat) (most : Int) (v : Value) (l' : List Int) (r : Value) (w : World) (e : Ending) (w' : World) : Prop :=
  e = .returned r ∧ ∃ v', Sk t b0 w' g most v' l' ∧ Fr (skT g v) w w' ∧ ∀ x ∈ skT g v', x ∈ skT g v ∨ w.heap.size ≤ x

/-! ### Stack -/
def stackNew (b0 : Nat) (most : Int) (w : World) (e : Ending) (w' : World) : Prop :=
  ∃ g, e = .returned (.tuple #[.pointer (some ⟨g, 0, none⟩), .int .i64 0]) ∧ Sk 121 b0 w' g most (.slice none 0 0) [] ∧ Fr [] w w' ∧ w.heap.size ≤ g
theorem stack_new (b0 : Nat) (most : Int) (w : World) (h : 0 ≤ most) (hb : b0 ≤ w.heap.size) : Calls Tryz.prog 13 #[.int .i64 most] w (stackNew b0 most w) := by
  have d0 : decide (most < 0) = false := decide_eq_false (by omega)
  have H : Hid (Calls Tryz.prog 25 #[.int .i64 most] w (stackNew b0 most w)) := by
    show Calls Tryz.prog 25 #[.int .i64 most] w (stackNew b0 most w)
    go_enter Tryz.func25, Tryz.ntmps25
    go_wp2_with fail
    go_ret2
    exact ⟨w.heap.size, rfl, ⟨Bk.new _ _ _, Lst.nil _ _ _ _, hb⟩, (Fr.refl _ _).alloc _, Nat.le_refl _⟩
  go_enter Tryz.func13, Tryz.ntmps13
  go_wp2_with fail
  refine (Calls.mono H.out ?_)
  rintro e w' ⟨g, rfl, h1, h2, h3⟩
  go_wp2_with fail
  go_ret2
  exact ⟨g, rfl, h1, h2, h3⟩
theorem stack_bad (most : Int) (w : World) (h : most < 0) : Calls Tryz.prog 13 #[.int .i64 most] w fun e w' => e = .returned (.tuple #[.pointer none, .int .i64 10]) ∧ w = w' := by
  have d0 : decide (most < 0) = true := decide_eq_true h
  have H : Hid (Calls Tryz.prog 25 #[.int .i64 most] w fun e w' => e = .returned (.tuple #[.pointer none, .int .i64 10]) ∧ w = w') := by
    show Calls Tryz.prog 25 #[.int .i64 most] w fun e w' => e = .returned (.tuple #[.pointer none, .int .i64 10]) ∧ w = w'
    go_enter Tryz.func25, Tryz.ntmps25
    go_wp2_with fail
    go_ret2
    exact ⟨rfl, rfl⟩
  go_enter Tryz.func13, Tryz.ntmps13
  go_wp2_with fail
  refine (Calls.mono H.out ?_)
  rintro e w' ⟨rfl, rfl⟩
  go_wp2_with fail
  go_ret2
  exact ⟨rfl, rfl⟩

theorem stack_len (b0 g : Nat) (most : Int) (v : Value) (l : List Int) (w : World) (h : Sk 121 b0 w g most v l) :
    Calls Tryz.prog 34 #[.pointer (some ⟨g, 0, none⟩)] w fun e w' => e = .returned (.int .i64 (l.length : Nat)) ∧ w = w' := by
  obtain ⟨A, cp, rfl, _, _⟩ := h.L.look
  have c1 : w.cell? ⟨g, 1, none⟩ = some (.slice A l.length cp) := h.B.cell 1
  clear h
  go_enter Tryz.func34, Tryz.ntmps34
  go_wp2_with fail
  go_ret
  exact ⟨rfl, rfl⟩

theorem stack_full (b0 g : Nat) (most : Int) (v : Value) (l : List Int) (x : Int) (w : World) (h : Sk 121 b0 w g most v l) (hf : fullB l.length most = true) :
    Calls Tryz.prog 30 #[.pointer (some ⟨g, 0, none⟩), .int .i64 x] w (SkTo 121 b0 g most v l (.int .i64 11) w) := by
  obtain ⟨A, cp, rfl, _, _⟩ := h.L.look
  have c0 : w.cell? ⟨g, 0, none⟩ = some (.int .i64 most) := h.B.cell 0
  have c1 : w.cell? ⟨g, 1, none⟩ = some (.slice A l.length cp) := h.B.cell 1
  have H1 : Hid (∀ n, Calls Tryz.prog 76 #[.int .i64 (l.length : Nat), .int .i64 most] (w.drewN n) fun e w' => e = .returned (.bool true) ∧ w.drewN n = w') := fun n => by
    rw [← hf]
    exact full_any l.length most _
  have H := Lib.hid h
  clear h hf
  go_enter Tryz.func30, Tryz.ntmps30
  go_upto_region 1 with fail
  go_quiet ((go_at_call 76; exact qleft (H1.out _)))
  go_wp2_with fail
  go_ret
  exact ⟨rfl, _, H.out.fr ((Fr.refl [] _).drewN _) (by simp) (by simp), (Fr.refl _ _).drewN _, fun x hx => .inl hx⟩

set_option maxHeartbeats 800000 in
theorem stack_add (b0 g : Nat) (most : Int) (v : Value) (l : List Int) (x : Int) (w : World) (h : Sk 121 b0 w g most v l) (hf : fullB l.length most = false) (hl : l.length ≤ 1000000000000) (hb : b0 ≤ w.heap.size) (ht : 121 ≠ 3) :
    Calls Tryz.prog 30 #[.pointer (some ⟨g, 0, none⟩), .int .i64 x] w (SkTo 121 b0 g most v (l ++ [x]) (.int .i64 0) w) := by
  obtain ⟨i2, hi2, hz2, hs2, hb2⟩ := info_parts' int_info
  obtain ⟨n, hn⟩ : ∃ n, l.length = n := ⟨_, rfl⟩
  have hL := h.L
  rw [hn] at hL hl
  obtain ⟨A, cp, rfl, _, _⟩ := hL.look
  have c0 : w.cell? ⟨g, 0, none⟩ = some (.int .i64 most) := h.B.cell 0
  have c1 : w.cell? ⟨g, 1, none⟩ = some (.slice A n cp) := h.B.cell 1
  have H1 : Hid (∀ m, Calls Tryz.prog 76 #[.int .i64 (n : Nat), .int .i64 most] (w.drewN m) fun e w' => e = .returned (.bool false) ∧ w.drewN m = w') := fun m => by
    rw [← hf, hn]
    exact full_any n most _
  have HB := Lib.hid h.B
  have HL := Lib.hid hL
  have HN := Lib.hid hn
  have HGB := Lib.hid h.b
  clear h hf hL hn
  go_enter Tryz.func30, Tryz.ntmps30
  go_upto_region 1 with fail
  go_quiet ((go_at_call 76; exact qleft (H1.out _)))
  rename_i nq _
  obtain ⟨z, hz⟩ : ∃ z, z = w.drewN nq := ⟨_, rfl⟩
  have hfz : Fr [] w z := by rw [hz]; exact (Fr.refl _ _).drewN _
  have HBz := Lib.hid (HB.out.fr hfz (by simp))
  have HLz := Lib.hid (HL.out.fr hfz (by simp))
  have HFz := Lib.hid hfz
  have cz1 : z.cell? ⟨g, 1, none⟩ = some (.slice A n cp) := HBz.out.cell 1
  have hsz := hfz.size
  rw [← hz]
  clear hfz hz
  go_wp2_with (at_builtin; refine wpList_append_lst _ rfl (.tmp 19) (.tmp 21) _ rfl b0 3 i2 _ 1 8 Tryz.underlying68 hi2 hz2 hs2 hb2 rfl _ n (iV l) rfl (HLz.out.alloc _) ⟨z.heap.size, 0, none⟩ 1 1 [.int .i64 x] rfl rfl (World.news_of_block (heap_alloc_new _ _)) ?c2 ?c3 ?c4 ?c5 ?c6)
  case c2 => simp [Value.oneCell']
  case c3 => unfold maxLen; omega
  case c4 => omega
  case c5 => first | omega | (simp; omega)
  case c6 =>
    intro v2 w7 hown hgrow hat
    have hne : ∀ j, (Value.slice A n cp).ownBlock = some j → j ≠ g := HLz.out.ne_bk HBz.out (by decide)
    have hfr : Fr (Value.slice A n cp).ownBlock.toList z w7 := ((Fr.refl _ _).alloc _).grown hgrow (fun j hj => .inl (by simp [hj]))
    have HB7 := Lib.hid (HBz.out.fr hfr (fun hx => hne _ (by simpa using hx) rfl))
    have HF7 : Hid (Fr (skT g (.slice A n cp)) w w7) := (HFz.out.mono (by simp)).trans hfr (fun j hj => .inl (by unfold skT; exact List.mem_cons_of_mem _ hj))
    have HL7 : Hid (Lst w7 b0 3 1 v2 (n + 1) (iV l ++ [.int .i64 x])) := hown
    have HA7 : Hid (∀ j, v2.ownBlock = some j → (Value.slice A n cp).ownBlock = some j ∨ w.heap.size ≤ j) := fun j hj => by
      rcases hat with e | e
      · exact .inl (e ▸ hj)
      · rw [e] at hj
        injection hj with hj
        refine .inr ?_
        rw [← hj]
        try simp
        omega
    have cz := HB7.out.cell 1
    have fz := HB7.out.free 1
    obtain ⟨A2, cap2, rfl, _, _⟩ := HL7.out.look
    clear hown hgrow hat hfr hne cz1 c0 c1
    go_wp2_with fail
    go_ret
    have hne2 : ∀ j, (Value.slice A2 (n + 1) cap2).ownBlock = some j → j ≠ g := HL7.out.ne_bk HB7.out (by decide)
    refine ⟨rfl, _, ⟨HB7.out.put 1 _, ?_, HGB.out⟩, HF7.out.setCell (.inl (by simp [skT])) _, fun j hj => ?_⟩
    · have := HL7.out.far (p := ⟨g, 1, none⟩) hne2 (.slice A2 (n + 1) cap2)
      unfold iV at this ⊢
      rw [List.map_append, List.length_append, HN.out]
      exact this
    · simp only [skT, List.mem_cons, Option.mem_toList] at hj ⊢
      rcases hj with e | e
      · exact .inl (.inl e)
      · rcases HA7.out j e with e | e
        · exact .inl (.inr e)
        · exact .inr e

theorem stack_none (b0 g : Nat) (most : Int) (v : Value) (w : World) (h : Sk 121 b0 w g most v []) :
    Calls Tryz.prog 32 #[.pointer (some ⟨g, 0, none⟩)] w fun e w' => e = .returned (.tuple #[.int .i64 0, .bool false]) ∧ w = w' := by
  obtain ⟨A, cp, rfl, _, _⟩ := h.L.look
  have c1 : w.cell? ⟨g, 1, none⟩ = some (.slice A 0 cp) := h.B.cell 1
  clear h
  go_enter Tryz.func32, Tryz.ntmps32
  go_wp2_with fail
  go_ret2
  exact ⟨rfl, rfl⟩

set_option maxHeartbeats 800000 in
theorem stack_take (b0 g : Nat) (most : Int) (v : Value) (l : List Int) (q : Nat) (x : Int) (w : World) (h : Sk 121 b0 w g most v l) (hn : l.length = q + 1) (hx : l[q]? = some x) (ht : 121 ≠ 3) :
    Calls Tryz.prog 32 #[.pointer (some ⟨g, 0, none⟩)] w (SkTo 121 b0 g most v (l.take q) (.tuple #[.int .i64 x, .bool true]) w) := by
  have hL := h.L
  rw [hn] at hL
  obtain ⟨gs, off, cp, rfl, hgb, _, hnc, hcm, _, hfz, hcell⟩ := hL.form (by omega)
  have cx := hcell q _ (iV_at hx)
  have fx := hfz (off + q)
  try simp only [Nat.add_zero] at cx fx
  have c1 : w.cell? ⟨g, 1, none⟩ = some (.slice (some ⟨gs, off, none⟩) (q + 1) cp) := h.B.cell 1
  have fg := h.B.free 1
  have hne : gs ≠ g := hL.ne_bk h.B (by decide) gs rfl
  have hne' : g ≠ gs := hne.symm
  have HB := Lib.hid h.B
  have HL := Lib.hid hL
  have HGB := Lib.hid h.b
  have HN := Lib.hid hn
  have HX := Lib.hid hx
  have hq0 : (0 : Int) ≤ (q : Int) := by omega
  have hq1 : (q : Int) < ((q + 1 : Nat) : Int) := by omega
  have hq2 : IntKind.i64.wrap (((q + 1 : Nat) : Int) - 1) = (q : Int) := by rw [show ((q + 1 : Nat) : Int) - 1 = (q : Int) by omega]; exact IntWalk.i64_in _ (by unfold maxLen at hcm; omega)
  have hq3 : (q : Int) ≤ (cp : Int) := by omega
  have hql : q + 1 ≤ 9223372036854775807 := by unfold maxLen at hcm; omega
  have hcl : cp ≤ 9223372036854775807 := by unfold maxLen at hcm; omega
  have hq4 : decide ((q : Int) < 0) = false := decide_eq_false (by omega)
  have hz1 : (((q + 1 : Nat) : Int) == 0) = false := by simpa using (show ¬ ((q + 1 : Nat) : Int) = 0 by omega)
  clear h hL hn hcell hfz hx
  go_enter Tryz.func32, Tryz.ntmps32
  go_wp2_with fail
  go_ret2
  have hL1 := (HL.out.put (j := q) (.int .i64 0)).shut (k := q) (by omega)
  have hB1 := (HB.out.far (p := ⟨gs, off + q, none⟩) hne' (.int .i64 0)).put 1 (.slice (some ⟨gs, off, none⟩) q cp)
  have hlq : (l.take q).length = q := by rw [List.length_take, HN.out]; omega
  refine ⟨rfl, .slice (some ⟨gs, off, none⟩) q cp, ⟨hB1, ?_, HGB.out⟩, ((Fr.refl _ _).setCell (.inl (by simp [skT, Value.ownBlock])) _).setCell (.inl (by simp [skT])) _, fun j hj => .inl (by simpa [skT, Value.ownBlock] using hj)⟩
  have := hL1.far (p := ⟨g, 1, none⟩) (fun j hj => by have : gs = j := (by simpa [Value.ownBlock] using hj); show j ≠ g; omega) (.slice (some ⟨gs, off, none⟩) q cp)
  rw [hlq]
  unfold iV at this ⊢
  rw [Nat.mul_one, List.take_set_of_le (Nat.le_refl _)] at this
  rw [List.map_take]
  exact this

/-! ### Queue -/
def queueNew (b0 : Nat) (most : Int) (w : World) (e : Ending) (w' : World) : Prop :=
  ∃ g, e = .returned (.tuple #[.pointer (some ⟨g, 0, none⟩), .int .i64 0]) ∧ Sk 122 b0 w' g most (.slice none 0 0) [] ∧ Fr [] w w' ∧ w.heap.size ≤ g
theorem queue_new (b0 : Nat) (most : Int) (w : World) (h : 0 ≤ most) (hb : b0 ≤ w.heap.size) : Calls Tryz.prog 14 #[.int .i64 most] w (queueNew b0 most w) := by
  have d0 : decide (most < 0) = false := decide_eq_false (by omega)
  have H : Hid (Calls Tryz.prog 26 #[.int .i64 most] w (queueNew b0 most w)) := by
    show Calls Tryz.prog 26 #[.int .i64 most] w (queueNew b0 most w)
    go_enter Tryz.func26, Tryz.ntmps26
    go_wp2_with fail
    go_ret2
    exact ⟨w.heap.size, rfl, ⟨Bk.new _ _ _, Lst.nil _ _ _ _, hb⟩, (Fr.refl _ _).alloc _, Nat.le_refl _⟩
  go_enter Tryz.func14, Tryz.ntmps14
  go_wp2_with fail
  refine (Calls.mono H.out ?_)
  rintro e w' ⟨g, rfl, h1, h2, h3⟩
  go_wp2_with fail
  go_ret2
  exact ⟨g, rfl, h1, h2, h3⟩
theorem queue_bad (most : Int) (w : World) (h : most < 0) : Calls Tryz.prog 14 #[.int .i64 most] w fun e w' => e = .returned (.tuple #[.pointer none, .int .i64 10]) ∧ w = w' := by
  have d0 : decide (most < 0) = true := decide_eq_true h
  have H : Hid (Calls Tryz.prog 26 #[.int .i64 most] w fun e w' => e = .returned (.tuple #[.pointer none, .int .i64 10]) ∧ w = w') := by
    show Calls Tryz.prog 26 #[.int .i64 most] w fun e w' => e = .returned (.tuple #[.pointer none, .int .i64 10]) ∧ w = w'
    go_enter Tryz.func26, Tryz.ntmps26
    go_wp2_with fail
    go_ret2
    exact ⟨rfl, rfl⟩
  go_enter Tryz.func14, Tryz.ntmps14
  go_wp2_with fail
  refine (Calls.mono H.out ?_)
  rintro e w' ⟨rfl, rfl⟩
  go_wp2_with fail
  go_ret2
  exact ⟨rfl, rfl⟩

theorem queue_len (b0 g : Nat) (most : Int) (v : Value) (l : List Int) (w : World) (h : Sk 122 b0 w g most v l) :
    Calls Tryz.prog 44 #[.pointer (some ⟨g, 0, none⟩)] w fun e w' => e = .returned (.int .i64 (l.length : Nat)) ∧ w = w' := by
  obtain ⟨A, cp, rfl, _, _⟩ := h.L.look
  have c1 : w.cell? ⟨g, 1, none⟩ = some (.slice A l.length cp) := h.B.cell 1
  clear h
  go_enter Tryz.func44, Tryz.ntmps44
  go_wp2_with fail
  go_ret
  exact ⟨rfl, rfl⟩

theorem queue_full (b0 g : Nat) (most : Int) (v : Value) (l : List Int) (x : Int) (w : World) (h : Sk 122 b0 w g most v l) (hf : fullB l.length most = true) :
    Calls Tryz.prog 39 #[.pointer (some ⟨g, 0, none⟩), .int .i64 x] w (SkTo 122 b0 g most v l (.int .i64 11) w) := by
  obtain ⟨A, cp, rfl, _, _⟩ := h.L.look
  have c0 : w.cell? ⟨g, 0, none⟩ = some (.int .i64 most) := h.B.cell 0
  have c1 : w.cell? ⟨g, 1, none⟩ = some (.slice A l.length cp) := h.B.cell 1
  have H1 : Hid (∀ n, Calls Tryz.prog 76 #[.int .i64 (l.length : Nat), .int .i64 most] (w.drewN n) fun e w' => e = .returned (.bool true) ∧ w.drewN n = w') := fun n => by
    rw [← hf]
    exact full_any l.length most _
  have H := Lib.hid h
  clear h hf
  go_enter Tryz.func39, Tryz.ntmps39
  go_upto_region 1 with fail
  go_quiet ((go_at_call 76; exact qleft (H1.out _)))
  go_wp2_with fail
  go_ret
  exact ⟨rfl, _, H.out.fr ((Fr.refl [] _).drewN _) (by simp) (by simp), (Fr.refl _ _).drewN _, fun x hx => .inl hx⟩

set_option maxHeartbeats 800000 in
theorem queue_add (b0 g : Nat) (most : Int) (v : Value) (l : List Int) (x : Int) (w : World) (h : Sk 122 b0 w g most v l) (hf : fullB l.length most = false) (hl : l.length ≤ 1000000000000) (hb : b0 ≤ w.heap.size) (ht : 122 ≠ 3) :
    Calls Tryz.prog 39 #[.pointer (some ⟨g, 0, none⟩), .int .i64 x] w (SkTo 122 b0 g most v (l ++ [x]) (.int .i64 0) w) := by
  obtain ⟨i2, hi2, hz2, hs2, hb2⟩ := info_parts' int_info
  obtain ⟨n, hn⟩ : ∃ n, l.length = n := ⟨_, rfl⟩
  have hL := h.L
  rw [hn] at hL hl
  obtain ⟨A, cp, rfl, _, _⟩ := hL.look
  have c0 : w.cell? ⟨g, 0, none⟩ = some (.int .i64 most) := h.B.cell 0
  have c1 : w.cell? ⟨g, 1, none⟩ = some (.slice A n cp) := h.B.cell 1
  have H1 : Hid (∀ m, Calls Tryz.prog 76 #[.int .i64 (n : Nat), .int .i64 most] (w.drewN m) fun e w' => e = .returned (.bool false) ∧ w.drewN m = w') := fun m => by
    rw [← hf, hn]
    exact full_any n most _
  have HB := Lib.hid h.B
  have HL := Lib.hid hL
  have HN := Lib.hid hn
  have HGB := Lib.hid h.b
  clear h hf hL hn
  go_enter Tryz.func39, Tryz.ntmps39
  go_upto_region 1 with fail
  go_quiet ((go_at_call 76; exact qleft (H1.out _)))
  rename_i nq _
  obtain ⟨z, hz⟩ : ∃ z, z = w.drewN nq := ⟨_, rfl⟩
  have hfz : Fr [] w z := by rw [hz]; exact (Fr.refl _ _).drewN _
  have HBz := Lib.hid (HB.out.fr hfz (by simp))
  have HLz := Lib.hid (HL.out.fr hfz (by simp))
  have HFz := Lib.hid hfz
  have cz1 : z.cell? ⟨g, 1, none⟩ = some (.slice A n cp) := HBz.out.cell 1
  have hsz := hfz.size
  rw [← hz]
  clear hfz hz
  go_wp2_with (at_builtin; refine wpList_append_lst _ rfl (.tmp 19) (.tmp 21) _ rfl b0 3 i2 _ 1 8 Tryz.underlying68 hi2 hz2 hs2 hb2 rfl _ n (iV l) rfl (HLz.out.alloc _) ⟨z.heap.size, 0, none⟩ 1 1 [.int .i64 x] rfl rfl (World.news_of_block (heap_alloc_new _ _)) ?c2 ?c3 ?c4 ?c5 ?c6)
  case c2 => simp [Value.oneCell']
  case c3 => unfold maxLen; omega
  case c4 => omega
  case c5 => first | omega | (simp; omega)
  case c6 =>
    intro v2 w7 hown hgrow hat
    have hne : ∀ j, (Value.slice A n cp).ownBlock = some j → j ≠ g := HLz.out.ne_bk HBz.out (by decide)
    have hfr : Fr (Value.slice A n cp).ownBlock.toList z w7 := ((Fr.refl _ _).alloc _).grown hgrow (fun j hj => .inl (by simp [hj]))
    have HB7 := Lib.hid (HBz.out.fr hfr (fun hx => hne _ (by simpa using hx) rfl))
    have HF7 : Hid (Fr (skT g (.slice A n cp)) w w7) := (HFz.out.mono (by simp)).trans hfr (fun j hj => .inl (by unfold skT; exact List.mem_cons_of_mem _ hj))
    have HL7 : Hid (Lst w7 b0 3 1 v2 (n + 1) (iV l ++ [.int .i64 x])) := hown
    have HA7 : Hid (∀ j, v2.ownBlock = some j → (Value.slice A n cp).ownBlock = some j ∨ w.heap.size ≤ j) := fun j hj => by
      rcases hat with e | e
      · exact .inl (e ▸ hj)
      · rw [e] at hj
        injection hj with hj
        refine .inr ?_
        rw [← hj]
        try simp
        omega
    have cz := HB7.out.cell 1
    have fz := HB7.out.free 1
    obtain ⟨A2, cap2, rfl, _, _⟩ := HL7.out.look
    clear hown hgrow hat hfr hne cz1 c0 c1
    go_wp2_with fail
    go_ret
    have hne2 : ∀ j, (Value.slice A2 (n + 1) cap2).ownBlock = some j → j ≠ g := HL7.out.ne_bk HB7.out (by decide)
    refine ⟨rfl, _, ⟨HB7.out.put 1 _, ?_, HGB.out⟩, HF7.out.setCell (.inl (by simp [skT])) _, fun j hj => ?_⟩
    · have := HL7.out.far (p := ⟨g, 1, none⟩) hne2 (.slice A2 (n + 1) cap2)
      unfold iV at this ⊢
      rw [List.map_append, List.length_append, HN.out]
      exact this
    · simp only [skT, List.mem_cons, Option.mem_toList] at hj ⊢
      rcases hj with e | e
      · exact .inl (.inl e)
      · rcases HA7.out j e with e | e
        · exact .inl (.inr e)
        · exact .inr e

theorem queue_none (b0 g : Nat) (most : Int) (v : Value) (w : World) (h : Sk 122 b0 w g most v []) :
    Calls Tryz.prog 41 #[.pointer (some ⟨g, 0, none⟩)] w fun e w' => e = .returned (.tuple #[.int .i64 0, .bool false]) ∧ w = w' := by
  obtain ⟨A, cp, rfl, _, _⟩ := h.L.look
  have c1 : w.cell? ⟨g, 1, none⟩ = some (.slice A 0 cp) := h.B.cell 1
  clear h
  go_enter Tryz.func41, Tryz.ntmps41
  go_wp2_with fail
  go_ret2
  exact ⟨rfl, rfl⟩

set_option maxHeartbeats 800000 in
theorem queue_take (b0 g : Nat) (most : Int) (v : Value) (l : List Int) (q : Nat) (x : Int) (w : World) (h : Sk 122 b0 w g most v l) (hn : l.length = q + 1) (hx : l[0]? = some x) (l' : List Int) (hl' : l' = l.drop 1) (ht : 122 ≠ 3) :
    Calls Tryz.prog 41 #[.pointer (some ⟨g, 0, none⟩)] w (SkTo 122 b0 g most v (l') (.tuple #[.int .i64 x, .bool true]) w) := by
  have HQ := Lib.hid hl'
  clear hl'
  have hL := h.L
  rw [hn] at hL
  obtain ⟨gs, off, cp, rfl, hgb, _, hnc, hcm, _, hfz, hcell⟩ := hL.form (by omega)
  have cx := hcell 0 _ (iV_at hx)
  have fx := hfz (off + 0)
  try simp only [Nat.add_zero] at cx fx
  have c1 : w.cell? ⟨g, 1, none⟩ = some (.slice (some ⟨gs, off, none⟩) (q + 1) cp) := h.B.cell 1
  have fg := h.B.free 1
  have hne : gs ≠ g := hL.ne_bk h.B (by decide) gs rfl
  have hne' : g ≠ gs := hne.symm
  have HB := Lib.hid h.B
  have HL := Lib.hid hL
  have HGB := Lib.hid h.b
  have HN := Lib.hid hn
  have HX := Lib.hid hx
  have hq0 : (0 : Int) ≤ (q : Int) := by omega
  have hq1 : (q : Int) < ((q + 1 : Nat) : Int) := by omega
  have hq2 : IntKind.i64.wrap (((q + 1 : Nat) : Int) - 1) = (q : Int) := by rw [show ((q + 1 : Nat) : Int) - 1 = (q : Int) by omega]; exact IntWalk.i64_in _ (by unfold maxLen at hcm; omega)
  have hq3 : (q : Int) ≤ (cp : Int) := by omega
  have hql : q + 1 ≤ 9223372036854775807 := by unfold maxLen at hcm; omega
  have hcl : cp ≤ 9223372036854775807 := by unfold maxLen at hcm; omega
  have hq4 : decide ((q : Int) < 0) = false := decide_eq_false (by omega)
  have hz1 : (((q + 1 : Nat) : Int) == 0) = false := by simpa using (show ¬ ((q + 1 : Nat) : Int) = 0 by omega)
  clear h hL hn hcell hfz hx
  by_cases hc1 : cp = 1
  · subst hc1
    obtain rfl : q = 0 := by omega
    have hL1 := (HL.out.put (j := 0) (.int .i64 0)).cut (k := 1) (by omega)
    simp only [if_true, Nat.add_zero, Nat.sub_self] at hL1
    have hB1 := (HB.out.far (p := ⟨gs, off, none⟩) hne' (.int .i64 0)).put 1 (.slice (some ⟨gs, off, none⟩) 0 0)
    have HL1 := Lib.hid hL1
    have HB1 := Lib.hid hB1
    clear hL1 hB1
    go_enter Tryz.func41, Tryz.ntmps41
    go_wp2_with fail
    go_ret2
    refine ⟨rfl, .slice (some ⟨gs, off, none⟩) 0 0, ⟨HB1.out, ?_, HGB.out⟩, ((Fr.refl _ _).setCell (.inl (by simp [skT, Value.ownBlock])) _).setCell (.inl (by simp [skT])) _, fun j hj => .inl (by simpa [skT, Value.ownBlock] using hj)⟩
    have := HL1.out.far (p := ⟨g, 1, none⟩) (fun j hj => by have : gs = j := (by simpa [Value.ownBlock] using hj); show j ≠ g; omega) (.slice (some ⟨gs, off, none⟩) 0 0)
    rw [HQ.out, List.length_drop, HN.out]
    unfold iV at this ⊢
    rw [List.map_drop]
    rw [List.drop_set_of_lt (by omega)] at this
    exact this
  · have hL1 := (HL.out.put (j := 0) (.int .i64 0)).cut (k := 1) (by omega)
    rw [if_neg hc1] at hL1
    simp only [Nat.add_zero, Nat.add_sub_cancel, Nat.one_mul] at hL1
    have hB1 := (HB.out.far (p := ⟨gs, off, none⟩) hne' (.int .i64 0)).put 1 (.slice (some ⟨gs, off + 1, none⟩) q (cp - 1))
    have HL1 := Lib.hid hL1
    have HB1 := Lib.hid hB1
    clear hL1 hB1
    go_enter Tryz.func41, Tryz.ntmps41
    go_wp2_with fail
    go_ret2
    refine ⟨rfl, .slice (some ⟨gs, off + 1, none⟩) q (cp - 1), ⟨HB1.out, ?_, HGB.out⟩, ((Fr.refl _ _).setCell (.inl (by simp [skT, Value.ownBlock])) _).setCell (.inl (by simp [skT])) _, fun j hj => .inl (by simpa [skT, Value.ownBlock] using hj)⟩
    have := HL1.out.far (p := ⟨g, 1, none⟩) (fun j hj => by have : gs = j := (by simpa [Value.ownBlock] using hj); show j ≠ g; omega) (.slice (some ⟨gs, off + 1, none⟩) q (cp - 1))
    rw [HQ.out, List.length_drop, HN.out, Nat.add_sub_cancel]
    unfold iV at this ⊢
    rw [List.map_drop]
    rw [List.drop_set_of_lt (by omega)] at this
    exact this
end Go.Proofs.YtdjaalkbpdmdgaaGreat
