/-
  Both Cycles; Begin as one; several turns side by side.
-/
import Derived.Test.YtdcppdgnekhcgaaGreatDoorPol12
import Derived.Laws.AppendOwnNone
namespace Go.Proofs.YtdcppdgnekhcgaaGreatDoor
open Go.RowKit Pol
set_option maxRecDepth 100000
set_option linter.unusedVariables false

/-- A list of its own is handed out. -/
def Listed (l : List Int) (w : World) (e : Ending) (w' : World) : Prop :=
  ∃ v, e = .returned v ∧ w'.ownsRow w.heap.size 3 1 v l.length (ints l) ∧ Fr [] w w'

theorem ints_one (l : List Int) : ∀ u ∈ ints l, u.oneCell' = true := by
  intro u hu
  obtain ⟨x, _, rfl⟩ := List.mem_map.1 hu
  simp [Value.oneCell']

theorem ints_news {w : World} {base b cap : Nat} {e : TypeId} {l : List Int} (h : w.ownsRow base e 1 (.slice (some ⟨b, 0, none⟩) l.length cap) l.length (ints l)) : ∀ j u, (ints l)[j]? = some u → w.cell? ((⟨b, 0, none⟩ : Addr).add j) = some u := by
  intro j u hj
  have hlt : j < l.length := by
    have := (List.getElem?_eq_some_iff.1 hj).1
    simpa [ints] using this
  have e1 : (⟨b, 0, none⟩ : Addr).add j = ⟨b, j, none⟩ := by cases j <;> simp [Addr.add]
  rw [e1]
  exact (h.cellAt j (by omega)).trans hj

theorem cycles_any (g : Nat) (c : Nat → Int) (base limit words : Int) (s : St) (l : List Int) (cyc : Value) (w : World) (hP : PT w g c base limit words s l cyc) :
    Calls Tryz.prog 28 #[.pointer (some ⟨g, 0, none⟩)] w (Listed l w) := by
  have h18 : w.cell? ⟨g, 18, none⟩ = some cyc := hP.B.cell 18
  have hl := hP.ok.len3
  have HO := Lib.hid hP.O
  obtain ⟨i0, hi, hz0, hz1, hz2⟩ := info_parts int_info
  clear hP
  have HO' := HO.out
  rcases HO'.2 with ⟨hc, h0⟩ | ⟨b, cap, cur, hc, _⟩
  · obtain rfl : l = [] := List.eq_nil_of_length_eq_zero h0
    subst hc
    clear HO' HO
    go_enter Tryz.func28, Tryz.ntmps28
    go_wp2_with (at_builtin; refine wpList_append_own_none _ (by first | rfl | skip) _ _ 29 rfl w.heap.size 3 i0 1 Tryz.underlying29 hi (.slice none 0 0) 0 [] rfl (World.ownsRow_nil w _ _ _) rfl ?_)
    go_ret
    exact ⟨_, rfl, World.ownsRow_nil w _ _ _, Fr.refl _ _⟩
  · subst hc
    clear HO'
    go_enter Tryz.func28, Tryz.ntmps28
    go_wp2_with (at_builtin; refine wpList_append_own _ rfl _ _ 29 rfl w.heap.size 3 i0 (.int .i64 0) 1 8 Tryz.underlying29 hi hz0 hz1 hz2 rfl (by decide) (.slice none 0 0) 0 [] rfl (World.ownsRow_nil w _ _ _) ⟨b, 0, none⟩ l.length cap (ints l) rfl (by simp [ints]) (ints_news HO.out) (ints_one l) ?c1 ?c2 (Nat.le_refl _) ?c3)
    case c1 => unfold maxLen; omega
    case c2 => omega
    case c3 =>
      intro v' w' hown hgrow _
      have HO2 := Lib.hid hown
      have HG2 := Lib.hid hgrow
      clear hown hgrow
      go_wp2_with fail
      go_ret
      exact ⟨_, rfl, by simpa using HO2.out, (Fr.refl [] w).grown HG2.out (by simp [Value.ownBlock])⟩

theorem rcycles_any (g : Nat) (c : Nat → Int) (kind words first most : Int) (s : St) (l : List Int) (cl ov : Bool) (rv : Value) (w : World) (T : RT w g c kind words first most s l cl ov rv) :
    Calls Tryz.prog 30 #[.pointer (some ⟨g, 0, none⟩)] w (Listed l w) := by
  have h18 : w.cell? ⟨g, 18, none⟩ = some rv := T.R.B.cell 18
  have hl := T.ok.len3
  have HO := Lib.hid T.R.O
  obtain ⟨i0, hi, hz0, hz1, hz2⟩ := info_parts int_info
  clear T
  have HO' := HO.out
  rcases HO'.2 with ⟨hc, h0⟩ | ⟨b, cap, cur, hc, _⟩
  · obtain rfl : l = [] := List.eq_nil_of_length_eq_zero h0
    subst hc
    clear HO' HO
    go_enter Tryz.func30, Tryz.ntmps30
    go_wp2_with (at_builtin; refine wpList_append_own_none _ (by first | rfl | skip) _ _ 29 rfl w.heap.size 3 i0 1 Tryz.underlying29 hi (.slice none 0 0) 0 [] rfl (World.ownsRow_nil w _ _ _) rfl ?_)
    go_ret
    exact ⟨_, rfl, World.ownsRow_nil w _ _ _, Fr.refl _ _⟩
  · subst hc
    clear HO'
    go_enter Tryz.func30, Tryz.ntmps30
    go_wp2_with (at_builtin; refine wpList_append_own _ rfl _ _ 29 rfl w.heap.size 3 i0 (.int .i64 0) 1 8 Tryz.underlying29 hi hz0 hz1 hz2 rfl (by decide) (.slice none 0 0) 0 [] rfl (World.ownsRow_nil w _ _ _) ⟨b, 0, none⟩ l.length cap (ints l) rfl (by simp [ints]) (ints_news HO.out) (ints_one l) ?c1 ?c2 (Nat.le_refl _) ?c3)
    case c1 => unfold maxLen; omega
    case c2 => omega
    case c3 =>
      intro v' w' hown hgrow _
      have HO2 := Lib.hid hown
      have HG2 := Lib.hid hgrow
      clear hown hgrow
      go_wp2_with fail
      go_ret
      exact ⟨_, rfl, by simpa using HO2.out, (Fr.refl [] w).grown HG2.out (by simp [Value.ownBlock])⟩

/-! ### Begin, as one. -/
def BeginAny (c : Nat → Int) (base kind words : Int) (w : World) (e : Ending) (w' : World) : Prop :=
  ∃ pv, e = .returned (.tuple #[.pointer pv, .int .i64 (beginErr c base kind words)]) ∧ Fr [] w w' ∧ ((beginErr c base kind words ≠ 0 ∧ pv = none) ∨
    (beginErr c base kind words = 0 ∧ ∃ g, pv = some ⟨g, 0, none⟩ ∧ w.heap.size ≤ g ∧ PT w' g c base (limitOf c base) words (st0 (phOf c kind words)) [] (.slice none 0 0)))
def RBeginAny (c : Nat → Int) (base kind words : Int) (w : World) (e : Ending) (w' : World) : Prop :=
  ∃ pv, e = .returned (.tuple #[.pointer pv, .int .i64 (beginErr c base kind words)]) ∧ Fr [] w w' ∧ ((beginErr c base kind words ≠ 0 ∧ pv = none) ∨
    (beginErr c base kind words = 0 ∧ ∃ g, pv = some ⟨g, 0, none⟩ ∧ w.heap.size ≤ g ∧ RT w' g c kind words base (limitOf c base) (st0 (phOf c kind words)) [] false false (.slice none 0 0)))

theorem begin_any (c : Nat → Int) (base kind words : Int) (w : World) (hw1 : words ≤ 9223372036854775807) :
    Calls Tryz.prog 20 #[.agg (cfgA c), .int .i64 base, .int .i64 kind, .int .i64 words] w (BeginAny c base kind words w) := by
  by_cases h : beginErr c base kind words = 0
  · refine (begin_ok c base kind words w h hw1).mono ?_
    rintro e w' ⟨g, rfl, hg, hP, hf⟩
    exact ⟨_, by rw [h], hf, .inr ⟨h, g, rfl, hg, hP⟩⟩
  · refine (begin_err c base kind words w h).mono ?_
    rintro e w' ⟨rfl, hf⟩
    exact ⟨none, rfl, hf, .inl ⟨h, rfl⟩⟩
theorem rbegin_any (c : Nat → Int) (base kind words : Int) (w : World) (hw1 : words ≤ 9223372036854775807) :
    Calls Tryz.prog 24 #[.agg (cfgA c), .int .i64 base, .int .i64 kind, .int .i64 words] w (RBeginAny c base kind words w) := by
  by_cases h : beginErr c base kind words = 0
  · refine (rbegin_ok c base kind words w h hw1).mono ?_
    rintro e w' ⟨g, rfl, hg, hP, hf⟩
    exact ⟨_, by rw [h], hf, .inr ⟨h, g, rfl, hg, hP⟩⟩
  · refine (rbegin_err c base kind words w h).mono ?_
    rintro e w' ⟨rfl, hf⟩
    exact ⟨none, rfl, hf, .inl ⟨h, rfl⟩⟩

/-! ### Things side by side: each with the blocks that are its own. -/
def Dis (A B : List Nat) : Prop := ∀ x ∈ A, x ∉ B
theorem Dis.symm {A B : List Nat} (h : Dis A B) : Dis B A := fun x hx hA => h x hA hx

structure Ob (F : List Nat) (P : World → Prop) : Prop where
  fr : ∀ {w w' : World} {S : List Nat}, P w → Fr S w w' → Dis F S → P w'
  lt : ∀ {w : World}, P w → ∀ x ∈ F, x < w.heap.size

/-- Four things, all made behind W0, none of them touching another. -/
structure Quad (W0 w : World) (F1 F2 F3 F4 : List Nat) (P1 P2 P3 P4 : World → Prop) : Prop where
  o1 : Ob F1 P1
  o2 : Ob F2 P2
  o3 : Ob F3 P3
  o4 : Ob F4 P4
  p1 : P1 w
  p2 : P2 w
  p3 : P3 w
  p4 : P4 w
  f : Fr [] W0 w
  n1 : ∀ x ∈ F1, W0.heap.size ≤ x
  n2 : ∀ x ∈ F2, W0.heap.size ≤ x
  n3 : ∀ x ∈ F3, W0.heap.size ≤ x
  n4 : ∀ x ∈ F4, W0.heap.size ≤ x
  d12 : Dis F1 F2
  d13 : Dis F1 F3
  d14 : Dis F1 F4
  d23 : Dis F2 F3
  d24 : Dis F2 F4
  d34 : Dis F3 F4

theorem Quad.rot {W0 w : World} {F1 F2 F3 F4 : List Nat} {P1 P2 P3 P4 : World → Prop} (q : Quad W0 w F1 F2 F3 F4 P1 P2 P3 P4) : Quad W0 w F2 F3 F4 F1 P2 P3 P4 P1 :=
  ⟨q.o2, q.o3, q.o4, q.o1, q.p2, q.p3, q.p4, q.p1, q.f, q.n2, q.n3, q.n4, q.n1, q.d23, q.d24, q.d12.symm, q.d34, q.d13.symm, q.d14.symm⟩

theorem Dis.step {A A' B : List Nat} {n : Nat} (h : Dis A B) (hA : ∀ x ∈ A', x ∈ A ∨ n ≤ x) (hB : ∀ x ∈ B, x < n) : Dis A' B := fun x hx hb => by
  rcases hA x hx with e | e
  · exact h x e hb
  · have := hB x hb
    omega

/-- The first one moves. -/
theorem Quad.step {W0 w w' : World} {F1 F1' F2 F3 F4 : List Nat} {P1 P1' P2 P3 P4 : World → Prop} (q : Quad W0 w F1 F2 F3 F4 P1 P2 P3 P4) (hf : Fr F1 w w') (hF : ∀ x ∈ F1', x ∈ F1 ∨ w.heap.size ≤ x) (o : Ob F1' P1') (p : P1' w') :
    Quad W0 w' F1' F2 F3 F4 P1' P2 P3 P4 :=
  ⟨o, q.o2, q.o3, q.o4, p, q.o2.fr q.p2 hf q.d12.symm, q.o3.fr q.p3 hf q.d13.symm, q.o4.fr q.p4 hf q.d14.symm, q.f.trans hf (fun x hx => .inr (q.n1 x hx)),
    fun x hx => by
      rcases hF x hx with e | e
      · exact q.n1 x e
      · exact Nat.le_trans q.f.size e,
    q.n2, q.n3, q.n4, q.d12.step hF (q.o2.lt q.p2), q.d13.step hF (q.o3.lt q.p3), q.d14.step hF (q.o4.lt q.p4), q.d23, q.d24, q.d34⟩

theorem Quad.new {W0 w w' : World} {F1 F2 F3 F4 : List Nat} {P1 P2 P3 P4 : World → Prop} (q : Quad W0 w F1 F2 F3 F4 P1 P2 P3 P4) (hf : Fr [] w w') : Quad W0 w' F1 F2 F3 F4 P1 P2 P3 P4 :=
  ⟨q.o1, q.o2, q.o3, q.o4, q.o1.fr q.p1 hf (by simp [Dis]), q.o2.fr q.p2 hf (by simp [Dis]), q.o3.fr q.p3 hf (by simp [Dis]), q.o4.fr q.p4 hf (by simp [Dis]), q.f.trans hf (by simp), q.n1, q.n2, q.n3, q.n4, q.d12, q.d13, q.d14, q.d23, q.d24, q.d34⟩

theorem PT.ob (g : Nat) (c : Nat → Int) (base limit words : Int) (s : St) (l : List Int) (cyc : Value) : Ob (g :: cyc.ownBlock.toList) (fun w => PT w g c base limit words s l cyc) :=
  ⟨fun {w w' S} p hf hd => ⟨p.B.fr hf (hd g (by simp)), own_fr p.O hf (fun k hk => hd k (by simp [hk])), p.ok, p.l0, p.l1, p.w0, p.w1⟩, fun {w} p x hx => by
    rcases List.mem_cons.1 hx with rfl | hx
    · exact p.B.lt
    · obtain ⟨cs, hb⟩ := own_bk p.O (by simpa using hx)
      exact hb.lt⟩
theorem RT.ob (g : Nat) (c : Nat → Int) (kind words first most : Int) (s : St) (l : List Int) (cl ov : Bool) (rv : Value) : Ob (g :: rv.ownBlock.toList) (fun w => RT w g c kind words first most s l cl ov rv) :=
  ⟨fun {w w' S} p hf hd => ⟨p.R.fr hf (hd g (by simp)) (fun k hk => hd k (by simp [hk])), p.ok, p.ph, p.co, p.kd, p.l0, p.l1, p.w0, p.w1⟩, fun {w} p x hx => by
    rcases List.mem_cons.1 hx with rfl | hx
    · exact p.R.B.lt
    · obtain ⟨cs, hb⟩ := own_bk p.R.O (by simpa using hx)
      exact hb.lt⟩

theorem own_step {u v : Value} {g n : Nat} (h : v.ownBlock = u.ownBlock ∨ ∃ b, v.ownBlock = some b ∧ n ≤ b) : ∀ x ∈ g :: v.ownBlock.toList, x ∈ g :: u.ownBlock.toList ∨ n ≤ x := by
  intro x hx
  rcases h with h | ⟨b, h, hb⟩
  · rw [h] at hx; exact .inl hx
  · rw [h] at hx
    rcases List.mem_cons.1 hx with rfl | hx
    · exact .inl (by simp)
    · right
      have : b = x := by simpa [eq_comm] using hx
      omega
end Go.Proofs.YtdcppdgnekhcgaaGreatDoor
