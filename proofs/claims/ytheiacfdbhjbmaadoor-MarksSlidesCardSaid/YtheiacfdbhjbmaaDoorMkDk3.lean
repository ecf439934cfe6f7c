/-
  Marks: the desk: what it is; its calls but those of slides.
-/
import Derived.Test.YtheiacfdbhjbmaaDoorMkDk2
import Derived.Test.YtheiacfdbhjbmaaDoorMk12
import Derived.Deep.RegionHeld3
namespace Go.Proofs.YtheiacfdbhjbmaaDoor
open Go.RowKit Go.Shelf Mk
set_option linter.unusedVariables false

/-- A slide that is kept, and the document's. -/
structure Sl where
  gs : Nat
  bs : Nat
  a : Nat
  b : Nat
  c : Nat
  cap : Nat
  sv : Value
  f : Nat → Bool
  rs : Nat
  lv : Value
def Sl.bl (s : Sl) : List Nat := s.gs :: s.bs :: s.rs :: (s.sv.ownBlock.toList ++ s.lv.ownBlock.toList)
structure Sl.ok (w : World) (size : Nat) (s : Sl) : Prop where
  S : SlideIs w s.gs s.bs s.a s.b s.c (nums size) s.cap s.sv s.f
  R : RefS w s.rs s.c s.lv s.f s.b
  i : ∀ j, s.f j = true → s.a ≤ j ∧ j < s.b
  t : cnt s.f 0 (64 * nums size) = cnt s.f 0 s.b
theorem Sl.ok.fr {w w' : World} {size : Nat} {s : Sl} {S : List Nat} (h : Sl.ok w size s) (hf : Fr S w w') (hS : ∀ x ∈ s.bl, x ∉ S) : Sl.ok w' size s :=
  ⟨h.S.fr hf (hS _ (by simp [Sl.bl])) (hS _ (by simp [Sl.bl])) (fun k hk => hS _ (by simp [Sl.bl, hk])), h.R.fr hf (hS _ (by simp [Sl.bl])) (fun k hk => hS _ (by simp [Sl.bl, hk])), h.i, h.t⟩

def dkT (d r gb rb : Nat) (sv tv : Value) : List Nat := d :: r :: gb :: rb :: (sv.ownBlock.toList ++ tv.ownBlock.toList)
/-- The desk: map and document's map of the same marks, slides and the document's. -/
structure Dk (w0 w : World) (d g gb r rb size : Nat) (F : Nat → Bool) (sv tv : Value) (K : List Sl) : Prop where
  B : Bk w d 81 #[.pointer (some ⟨g, 0, none⟩), .pointer (some ⟨r, 0, none⟩), sv, tv]
  M : MapIs w g gb size F
  R : RefM w r rb size F
  O : On w
  S : Lst w w0.heap.size 27 1 sv K.length (K.map fun s => .pointer (some ⟨s.gs, 0, none⟩))
  T : Lst w w0.heap.size 89 1 tv K.length (K.map fun s => .pointer (some ⟨s.rs, 0, none⟩))
  A : ∀ s ∈ K, s.ok w size ∧ ∀ x ∈ s.bl, x < w.heap.size ∧ x ∉ dkT d r gb rb sv tv
  k6 : K.length ≤ 6
  F0 : Fr [] w0 w
  nd : w0.heap.size ≤ d
  nr : w0.heap.size ≤ r
  ng : w0.heap.size ≤ gb
  nb : w0.heap.size ≤ rb
  z : size ≤ 8192
  o : 0 < w0.heap.size
theorem Dk.base {w0 w : World} {d g gb r rb size : Nat} {F : Nat → Bool} {sv tv : Value} {K : List Sl} (h : Dk w0 w d g gb r rb size F sv tv K) : ∀ x ∈ dkT d r gb rb sv tv, w0.heap.size ≤ x := by
  intro x hx
  simp only [dkT, List.mem_cons, List.mem_append, Option.mem_toList] at hx
  rcases hx with rfl | rfl | rfl | rfl | hx | hx
  · exact h.nd
  · exact h.nr
  · exact h.ng
  · exact h.nb
  · exact (h.S.lt x hx).1
  · exact (h.T.lt x hx).1
theorem Dk.ask {w0 w w' : World} {d g gb r rb size : Nat} {F : Nat → Bool} {sv tv : Value} {K : List Sl} (h : Dk w0 w d g gb r rb size F sv tv K) (hf : Fr [] w w') : Dk w0 w' d g gb r rb size F sv tv K :=
  ⟨h.B.fr hf (by simp), h.M.fr hf (by simp) (by simp), h.R.fr hf (by simp) (by simp), h.O.fr hf (by simp), h.S.fr hf (by simp), h.T.fr hf (by simp), fun s hs => ⟨(h.A s hs).1.fr hf (by simp), fun x hx => ⟨Nat.lt_of_lt_of_le ((h.A s hs).2 x hx).1 hf.size, ((h.A s hs).2 x hx).2⟩⟩,
    h.k6, h.F0.trans hf (by simp), h.nd, h.nr, h.ng, h.nb, h.z, h.o⟩
/-- What the desk turned: its own blocks, and new ones. -/
theorem Dk.turn {w0 w w' : World} {d g gb r rb rb' size : Nat} {F F' : Nat → Bool} {sv tv : Value} {K : List Sl} (h : Dk w0 w d g gb r rb size F sv tv K) {S : List Nat} (hf : Fr S w w') (hS : ∀ x ∈ S, x = gb ∨ x = rb ∨ x = r)
    (hM : MapIs w' g gb size F') (hR : RefM w' r rb' size F') (hb : rb' = rb ∨ w.heap.size ≤ rb') : Dk w0 w' d g gb r rb' size F' sv tv K := by
  obtain ⟨cs, hgb, _⟩ := h.M.W
  have hd : d ∉ S := fun hx => by
    rcases hS d hx with e | e | e
    · exact h.B.ne hgb (by decide) e
    · exact h.B.ne h.R.R (by decide) e
    · exact h.B.ne h.R.B (by decide) e
  have hs : ∀ j, sv.ownBlock = some j → j ∉ S := fun j hj hx => by
    rcases hS j hx with e | e | e
    · exact h.S.ne_bk hgb (by decide) j hj e
    · exact h.S.ne_bk h.R.R (by decide) j hj e
    · exact h.S.ne_bk h.R.B (by decide) j hj e
  have ht : ∀ j, tv.ownBlock = some j → j ∉ S := fun j hj hx => by
    rcases hS j hx with e | e | e
    · exact h.T.ne_bk hgb (by decide) j hj e
    · exact h.T.ne_bk h.R.R (by decide) j hj e
    · exact h.T.ne_bk h.R.B (by decide) j hj e
  have hST : ∀ x ∈ S, x ∈ dkT d r gb rb sv tv := fun x hx => by
    rcases hS x hx with e | e | e <;> subst e <;> simp [dkT]
  have hF0 : Fr [] w0 w' := h.F0.trans hf (fun x hx => .inr (h.base x (hST x hx)))
  have hO : On w' := h.O.fr hf (fun hx => by have := h.base 0 (hST 0 hx); have := h.o; omega)
  refine ⟨h.B.fr hf hd, hM, hR, hO, h.S.fr hf hs, h.T.fr hf ht, fun s hs => ?_, h.k6, hF0, h.nd, h.nr, h.ng, ?_, h.z, h.o⟩
  · obtain ⟨h1, h2⟩ := h.A s hs
    refine ⟨h1.fr hf (fun x hx hxS => (h2 x hx).2 (hST x hxS)), fun x hx => ⟨Nat.lt_of_lt_of_le (h2 x hx).1 hf.size, fun hxT => ?_⟩⟩
    obtain ⟨h3, h4⟩ := h2 x hx
    simp only [dkT, List.mem_cons, not_or] at hxT h4
    rcases hxT with e | e | e | e | e
    · exact h4.1 e
    · exact h4.2.1 e
    · exact h4.2.2.1 e
    · rcases hb with e2 | e2
      · exact h4.2.2.2.1 (e.trans e2)
      · omega
    · exact h4.2.2.2.2 e
  · rcases hb with e | e
    · rw [e]; exact h.nb
    · have := h.F0.size; omega

/-- A call's answer is right, and the desk is one again. -/
def PlayOk (w0 : World) (d g gb r size : Nat) (e : Ending) (w' : World) : Prop :=
  e = .returned (.bool true) ∧ ∃ rb F sv tv K, Dk w0 w' d g gb r rb size F sv tv K

def opV (k a b c : Int) : Value := .agg #[.int .i64 k, .int .i64 a, .int .i64 b, .int .i64 c]
def opC (k a b c : Int) : Array Value := #[.int .i64 k, .int .i64 a, .int .i64 b, .int .i64 c]

/-- The desk's own cells and the call's. -/
structure DOp (W : World) (d g gb r rb bo : Nat) (sv tv : Value) (k a b c : Int) : Prop where
  B : Bk W d 81 #[.pointer (some ⟨g, 0, none⟩), .pointer (some ⟨r, 0, none⟩), sv, tv]
  P : Bk W bo 72 #[.int .i64 k, .int .i64 a, .int .i64 b, .int .i64 c]
  n1 : d ≠ gb ∧ d ≠ rb ∧ d ≠ r
  n2 : bo ≠ gb ∧ bo ≠ rb ∧ bo ≠ r
theorem DOp.fr {W W' : World} {d g gb r rb bo : Nat} {sv tv : Value} {k a b c : Int} {S : List Nat} (h : DOp W d g gb r rb bo sv tv k a b c) (hf : Fr S W W') (hS : ∀ x ∈ S, x = gb ∨ x = rb ∨ x = r) : DOp W' d g gb r rb bo sv tv k a b c :=
  ⟨h.B.fr hf (fun hx => by rcases hS _ hx with e | e | e; exact h.n1.1 e; exact h.n1.2.1 e; exact h.n1.2.2 e), h.P.fr hf (fun hx => by rcases hS _ hx with e | e | e; exact h.n2.1 e; exact h.n2.2.1 e; exact h.n2.2.2 e), h.n1, h.n2⟩
theorem DOp.c0 {W : World} {d g gb r rb bo : Nat} {sv tv : Value} {k a b c : Int} (h : DOp W d g gb r rb bo sv tv k a b c) : W.cell? ⟨d, 0, none⟩ = some (.pointer (some ⟨g, 0, none⟩)) ∧ W.cell? ⟨bo, 1, none⟩ = some (.int .i64 a) ∧ W.cell? ⟨bo, 2, none⟩ = some (.int .i64 b) := ⟨h.B.cell 0, h.P.cell 1, h.P.cell 2⟩
theorem DOp.c1 {W : World} {d g gb r rb bo : Nat} {sv tv : Value} {k a b c : Int} (h : DOp W d g gb r rb bo sv tv k a b c) : W.cell? ⟨d, 1, none⟩ = some (.pointer (some ⟨r, 0, none⟩)) ∧ W.cell? ⟨bo, 1, none⟩ = some (.int .i64 a) ∧ W.cell? ⟨bo, 2, none⟩ = some (.int .i64 b) := ⟨h.B.cell 1, h.P.cell 1, h.P.cell 2⟩
theorem DOp.of {w0 w W : World} {d g gb r rb size : Nat} {F : Nat → Bool} {sv tv : Value} {K : List Sl} {k a b c : Int} (h : Dk w0 w d g gb r rb size F sv tv K) (e : W = w.alloc (.cells #[.int .i64 k, .int .i64 a, .int .i64 b, .int .i64 c] 72)) :
    DOp W d g gb r rb w.heap.size sv tv k a b c ∧ Dk w0 W d g gb r rb size F sv tv K := by
  subst e
  obtain ⟨cs, hcs, _⟩ := h.M.W
  refine ⟨⟨h.B.alloc _, Bk.new _ _ _, ⟨h.B.ne hcs (by decide), h.B.ne h.R.R (by decide), h.B.ne h.R.B (by decide)⟩, ?_⟩, h.ask ((Fr.refl _ _).alloc _)⟩
  have h1 := hcs.lt
  have h2 := h.R.R.lt
  have h3 := h.R.B.lt
  omega

set_option maxRecDepth 100000 in
set_option maxHeartbeats 1600000 in
theorem plays_set (d g gb r rb size : Nat) (F : Nat → Bool) (sv tv : Value) (K : List Sl) (a b c : Int) (w0 w : World) (h : Dk w0 w d g gb r rb size F sv tv K) (ha : a ≤ 9223372036854775807) (hb : b ≤ 9223372036854775807) :
    Calls Tryd.prog 44 #[.pointer (some ⟨d, 0, none⟩), .agg #[.int .i64 1, .int .i64 a, .int .i64 b, .int .i64 c]] w (PlayOk w0 d g gb r size) := by
  obtain ⟨wa, hwa⟩ : ∃ wa, wa = w.alloc (.cells #[.int .i64 1, .int .i64 a, .int .i64 b, .int .i64 c] 72) := ⟨_, rfl⟩
  obtain ⟨hP, hD⟩ := DOp.of h hwa
  have HWA := Lib.hid hwa
  have HP := Lib.hid (hP.fr ((Fr.refl [] _).drew) (by simp))
  have HD := Lib.hid (hD.ask ((Fr.refl [] _).drew))
  have c0 : wa.cell? ⟨w.heap.size, 0, none⟩ = some (.int .i64 1) := hP.P.cell 0
  clear h hwa hP hD
  go_enter Tryd.func44, Tryd.ntmps44
  go_upto_region 1 with fail
  rw [← HWA.out]
  go_upto_region 3 with fail
  clear c0
  go_region_held3 (fun W => W.cell? ⟨d, 0, none⟩ = some (.pointer (some ⟨g, 0, none⟩)) ∧ W.cell? ⟨w.heap.size, 1, none⟩ = some (.int .i64 a) ∧ W.cell? ⟨w.heap.size, 2, none⟩ = some (.int .i64 b)) ((first | exact HP.out.c0 | exact (HP.out.fr (by assumption) (by simp)).c0))
    ((go_at_call 18; refine (set_any g gb size F a b _ ha hb HD.out.M HD.out.O).mono ?_; rintro e w1 ⟨rfl, hM1, hf1⟩))
  have HP1 := Lib.hid ((HP.out.fr hf1 (by simp)).fr ((Fr.refl [] _).drew) (by simp))
  have HR1 : Hid (RefM w1.drew r rb size F) := (HD.out.R.fr hf1 (fun hx => by
    obtain ⟨cs, hcs, _⟩ := HD.out.M.W
    exact HD.out.R.B.ne hcs (by decide) (by simpa using hx)) (fun hx => by
    obtain ⟨cs, hcs, _⟩ := HD.out.M.W
    exact HD.out.R.R.ne hcs (by decide) (by simpa using hx))).fr ((Fr.refl [] _).drew) (by simp) (by simp)
  have HM1 : Hid (MapIs w1.drew g gb size (setF size F a b)) := hM1.fr ((Fr.refl [] _).drew) (by simp) (by simp)
  have HF1 : Hid (Fr [gb] wa.drew w1.drew) := hf1.drew
  clear hM1 hf1
  go_upto_region 4 with fail
  go_region_held3 (fun W => W.cell? ⟨d, 1, none⟩ = some (.pointer (some ⟨r, 0, none⟩)) ∧ W.cell? ⟨w.heap.size, 1, none⟩ = some (.int .i64 a) ∧ W.cell? ⟨w.heap.size, 2, none⟩ = some (.int .i64 b)) ((first | exact HP1.out.c1 | exact (HP1.out.fr (by assumption) (by simp)).c1))
    ((go_at_call 49; refine (rset_any r rb size F a b _ ha hb HR1.out).mono ?_; rintro e w2 ⟨rfl, hR2, hf2⟩))
  have HDK : Hid (Dk w0 w2 d g gb r rb size (setF size F a b) sv tv K) := by
    refine HD.out.turn (S := [gb, rb]) ((HF1.out.mono (by simp)).trans hf2 (by simp)) (fun x hx => by simp at hx; rcases hx with e | e <;> simp [e]) (HM1.out.fr hf2 (fun hx => ?_) (fun hx => ?_)) hR2 (.inl rfl)
    · exact HM1.out.B.ne HR1.out.R (by decide) (by simpa using hx)
    · obtain ⟨cs, hcs, _⟩ := HM1.out.W
      exact hcs.ne HR1.out.R (by decide) (by simpa using hx)
  clear hR2 hf2
  obtain ⟨B, hB⟩ : ∃ B, setB size F a b = B := ⟨_, rfl⟩
  obtain ⟨E, hE⟩ : ∃ E, setE size a b = E := ⟨_, rfl⟩
  rw [hB, hE]
  have x1 : (B == B) = true := by simp
  have x2 : (E == E) = true := by simp
  clear hB hE
  cases B
  all_goals
    go_wp2_with fail
    refine (num_any E w2).mono ?_
    rintro e w3 ⟨rfl, rfl⟩
    go_wp2_with fail
    go_ret
    exact ⟨rfl, rb, _, sv, tv, K, HDK.out⟩

set_option maxRecDepth 100000 in
theorem plays_has (d g gb r rb size : Nat) (F : Nat → Bool) (sv tv : Value) (K : List Sl) (a b c : Int) (w0 w : World) (h : Dk w0 w d g gb r rb size F sv tv K) :
    Calls Tryd.prog 44 #[.pointer (some ⟨d, 0, none⟩), .agg #[.int .i64 2, .int .i64 a, .int .i64 b, .int .i64 c]] w (PlayOk w0 d g gb r size) := by
  obtain ⟨wa, hwa⟩ : ∃ wa, wa = w.alloc (.cells #[.int .i64 2, .int .i64 a, .int .i64 b, .int .i64 c] 72) := ⟨_, rfl⟩
  obtain ⟨hP, hD⟩ := DOp.of h hwa
  have HWA := Lib.hid hwa
  have c0 : wa.cell? ⟨w.heap.size, 0, none⟩ = some (.int .i64 2) := hP.P.cell 0
  have c1 : wa.cell? ⟨w.heap.size, 1, none⟩ = some (.int .i64 a) := hP.P.cell 1
  have d0 : wa.cell? ⟨d, 0, none⟩ = some (.pointer (some ⟨g, 0, none⟩)) := hP.B.cell 0
  have d1 : wa.cell? ⟨d, 1, none⟩ = some (.pointer (some ⟨r, 0, none⟩)) := hP.B.cell 1
  have HD := Lib.hid hD
  obtain ⟨B, hB⟩ : ∃ B, hasF F size a = B := ⟨_, rfl⟩
  have H1 : Hid (∀ n, Calls Tryd.prog 24 #[.pointer (some ⟨g, 0, none⟩), .int .i64 a] (wa.drewN n) fun e w' => e = .returned (.bool B) ∧ wa.drewN n = w') := fun n => by
    rw [← hB]
    exact hasm_any g gb size F a _ (HD.out.ask ((Fr.refl [] _).drewN n)).M
  have H2 : Hid (∀ n, Calls Tryd.prog 50 #[.pointer (some ⟨r, 0, none⟩), .int .i64 a] (wa.drewN n) fun e w' => e = .returned (.bool B) ∧ wa.drewN n = w') := fun n => by
    rw [← hB]
    exact rhas_any r rb size F a _ (HD.out.ask ((Fr.refl [] _).drewN n)).R
  have x1 : (B == B) = true := by simp
  clear h hwa hP hD hB
  go_enter Tryd.func44, Tryd.ntmps44
  go_upto_region 1 with fail
  rw [← HWA.out]
  go_upto_region 7 with fail
  go_quiet ((go_at_call 24; exact qleft (H1.out _)))
  go_upto_region 8 with fail
  go_quiet ((go_at_call 50; first | exact qleft (H2.out _) | exact qadd (H2.out _)))
  go_wp2_with fail
  go_ret
  exact ⟨rfl, rb, _, sv, tv, K, HD.out.ask (((Fr.refl [] _).drewN _).drewN _)⟩

set_option maxRecDepth 100000 in
theorem plays_count (d g gb r rb size : Nat) (F : Nat → Bool) (sv tv : Value) (K : List Sl) (a b c : Int) (w0 w : World) (h : Dk w0 w d g gb r rb size F sv tv K) :
    Calls Tryd.prog 44 #[.pointer (some ⟨d, 0, none⟩), .agg #[.int .i64 3, .int .i64 a, .int .i64 b, .int .i64 c]] w (PlayOk w0 d g gb r size) := by
  obtain ⟨wa, hwa⟩ : ∃ wa, wa = w.alloc (.cells #[.int .i64 3, .int .i64 a, .int .i64 b, .int .i64 c] 72) := ⟨_, rfl⟩
  obtain ⟨hP, hD⟩ := DOp.of h hwa
  have HWA := Lib.hid hwa
  have c0 : wa.cell? ⟨w.heap.size, 0, none⟩ = some (.int .i64 3) := hP.P.cell 0
  have c1 : wa.cell? ⟨w.heap.size, 1, none⟩ = some (.int .i64 a) := hP.P.cell 1
  have c2 : wa.cell? ⟨w.heap.size, 2, none⟩ = some (.int .i64 b) := hP.P.cell 2
  have d0 : wa.cell? ⟨d, 0, none⟩ = some (.pointer (some ⟨g, 0, none⟩)) := hP.B.cell 0
  have d1 : wa.cell? ⟨d, 1, none⟩ = some (.pointer (some ⟨r, 0, none⟩)) := hP.B.cell 1
  have HD := Lib.hid hD
  obtain ⟨N, hN⟩ : ∃ N, cntI F size a b = N := ⟨_, rfl⟩
  have H1 : Hid (∀ n, Calls Tryd.prog 20 #[.pointer (some ⟨g, 0, none⟩), .int .i64 a, .int .i64 b] (wa.drewN n) fun e w' => e = .returned (.int .i64 (N : Nat)) ∧ ∃ m, w' = (wa.drewN n).drewN m) := fun n => by
    have hd := HD.out.ask ((Fr.refl [] _).drewN n)
    rw [← hN]
    exact countm_any g gb size F a b _ hd.M hd.O
  have H2 : Hid (∀ n, Calls Tryd.prog 51 #[.pointer (some ⟨r, 0, none⟩), .int .i64 a, .int .i64 b] (wa.drewN n) fun e w' => e = .returned (.int .i64 (N : Nat)) ∧ wa.drewN n = w') := fun n => by
    rw [← hN]
    exact rcount_any r rb size F a b _ (HD.out.ask ((Fr.refl [] _).drewN n)).R
  have x1 : ((N : Int) == (N : Int)) = true := by simp
  clear h hwa hP hD hN
  go_enter Tryd.func44, Tryd.ntmps44
  go_upto_region 1 with fail
  rw [← HWA.out]
  go_upto_region 10 with fail
  go_quiet ((go_at_call 20; (first | (with_reducible exact quiet_add (H1.out _)) | (with_reducible exact quiet_zero (H1.out _)))))
  go_upto_region 11 with fail
  go_quiet ((go_at_call 51; first | exact qleft (H2.out _) | exact qadd (H2.out _)))
  go_wp2_with fail
  go_ret
  exact ⟨rfl, rb, _, sv, tv, K, HD.out.ask (((Fr.refl [] _).drewN _).drewN _)⟩

set_option maxRecDepth 100000 in
theorem plays_next (d g gb r rb size : Nat) (F : Nat → Bool) (sv tv : Value) (K : List Sl) (a b c : Int) (w0 w : World) (h : Dk w0 w d g gb r rb size F sv tv K) (ha : a ≤ 9223372036854775807) :
    Calls Tryd.prog 44 #[.pointer (some ⟨d, 0, none⟩), .agg #[.int .i64 4, .int .i64 a, .int .i64 b, .int .i64 c]] w (PlayOk w0 d g gb r size) := by
  obtain ⟨wa, hwa⟩ : ∃ wa, wa = w.alloc (.cells #[.int .i64 4, .int .i64 a, .int .i64 b, .int .i64 c] 72) := ⟨_, rfl⟩
  obtain ⟨hP, hD⟩ := DOp.of h hwa
  have HWA := Lib.hid hwa
  have c0 : wa.cell? ⟨w.heap.size, 0, none⟩ = some (.int .i64 4) := hP.P.cell 0
  have c1 : wa.cell? ⟨w.heap.size, 1, none⟩ = some (.int .i64 a) := hP.P.cell 1
  have c2 : wa.cell? ⟨w.heap.size, 2, none⟩ = some (.int .i64 b) := hP.P.cell 2
  have d0 : wa.cell? ⟨d, 0, none⟩ = some (.pointer (some ⟨g, 0, none⟩)) := hP.B.cell 0
  have d1 : wa.cell? ⟨d, 1, none⟩ = some (.pointer (some ⟨r, 0, none⟩)) := hP.B.cell 1
  have HD := Lib.hid hD
  obtain ⟨N, hN⟩ : ∃ N, nxtI F size a = N := ⟨_, rfl⟩
  have H1 : Hid (∀ n, Calls Tryd.prog 23 #[.pointer (some ⟨g, 0, none⟩), .int .i64 a] (wa.drewN n) fun e w' => e = .returned (.int .i64 N) ∧ ∃ m, w' = (wa.drewN n).drewN m) := fun n => by
    have hd := HD.out.ask ((Fr.refl [] _).drewN n)
    rw [← hN]
    exact nextm_any g gb size F a _ ha hd.M
  have H2 : Hid (∀ n, Calls Tryd.prog 52 #[.pointer (some ⟨r, 0, none⟩), .int .i64 a] (wa.drewN n) fun e w' => e = .returned (.int .i64 N) ∧ wa.drewN n = w') := fun n => by
    rw [← hN]
    exact rnext_any r rb size F a _ (HD.out.ask ((Fr.refl [] _).drewN n)).R
  have x1 : (N == N) = true := by simp
  clear h hwa hP hD hN
  go_enter Tryd.func44, Tryd.ntmps44
  go_upto_region 1 with fail
  rw [← HWA.out]
  go_upto_region 13 with fail
  go_quiet ((go_at_call 23; (first | (with_reducible exact quiet_add (H1.out _)) | (with_reducible exact quiet_zero (H1.out _)))))
  go_upto_region 14 with fail
  go_quiet ((go_at_call 52; first | exact qleft (H2.out _) | exact qadd (H2.out _)))
  go_wp2_with fail
  go_ret
  exact ⟨rfl, rb, _, sv, tv, K, HD.out.ask (((Fr.refl [] _).drewN _).drewN _)⟩

set_option maxRecDepth 100000 in
theorem plays_runs (d g gb r rb size : Nat) (F : Nat → Bool) (sv tv : Value) (K : List Sl) (a b c : Int) (w0 w : World) (h : Dk w0 w d g gb r rb size F sv tv K) :
    Calls Tryd.prog 44 #[.pointer (some ⟨d, 0, none⟩), .agg #[.int .i64 5, .int .i64 a, .int .i64 b, .int .i64 c]] w (PlayOk w0 d g gb r size) := by
  obtain ⟨wa, hwa⟩ : ∃ wa, wa = w.alloc (.cells #[.int .i64 5, .int .i64 a, .int .i64 b, .int .i64 c] 72) := ⟨_, rfl⟩
  obtain ⟨hP, hD⟩ := DOp.of h hwa
  have HWA := Lib.hid hwa
  have c0 : wa.cell? ⟨w.heap.size, 0, none⟩ = some (.int .i64 5) := hP.P.cell 0
  have c1 : wa.cell? ⟨w.heap.size, 1, none⟩ = some (.int .i64 a) := hP.P.cell 1
  have c2 : wa.cell? ⟨w.heap.size, 2, none⟩ = some (.int .i64 b) := hP.P.cell 2
  have d0 : wa.cell? ⟨d, 0, none⟩ = some (.pointer (some ⟨g, 0, none⟩)) := hP.B.cell 0
  have d1 : wa.cell? ⟨d, 1, none⟩ = some (.pointer (some ⟨r, 0, none⟩)) := hP.B.cell 1
  have HD := Lib.hid hD
  clear h hwa hP hD
  go_enter Tryd.func44, Tryd.ntmps44
  go_upto_region 1 with fail
  rw [← HWA.out]
  go_wp2_with fail
  refine (desk_runs d g gb r rb size F sv tv a wa HD.out.B HD.out.M HD.out.R HD.out.O).mono ?_
  rintro e w1 ⟨rfl, hf⟩
  have HF := Lib.hid hf
  clear hf c0 c1 c2 d0 d1
  go_wp2_with fail
  go_ret
  exact ⟨rfl, rb, _, sv, tv, K, HD.out.ask HF.out⟩

set_option maxRecDepth 100000 in
theorem plays_words (d g gb r rb size : Nat) (F : Nat → Bool) (sv tv : Value) (K : List Sl) (a b c : Int) (w0 w : World) (h : Dk w0 w d g gb r rb size F sv tv K) :
    Calls Tryd.prog 44 #[.pointer (some ⟨d, 0, none⟩), .agg #[.int .i64 6, .int .i64 a, .int .i64 b, .int .i64 c]] w (PlayOk w0 d g gb r size) := by
  obtain ⟨wa, hwa⟩ : ∃ wa, wa = w.alloc (.cells #[.int .i64 6, .int .i64 a, .int .i64 b, .int .i64 c] 72) := ⟨_, rfl⟩
  obtain ⟨hP, hD⟩ := DOp.of h hwa
  have HWA := Lib.hid hwa
  have c0 : wa.cell? ⟨w.heap.size, 0, none⟩ = some (.int .i64 6) := hP.P.cell 0
  have c1 : wa.cell? ⟨w.heap.size, 1, none⟩ = some (.int .i64 a) := hP.P.cell 1
  have c2 : wa.cell? ⟨w.heap.size, 2, none⟩ = some (.int .i64 b) := hP.P.cell 2
  have d0 : wa.cell? ⟨d, 0, none⟩ = some (.pointer (some ⟨g, 0, none⟩)) := hP.B.cell 0
  have d1 : wa.cell? ⟨d, 1, none⟩ = some (.pointer (some ⟨r, 0, none⟩)) := hP.B.cell 1
  have HD := Lib.hid hD
  have e1 : wa.cell? ⟨r, 0, none⟩ = some (.slice (some ⟨rb, 0, none⟩) size size) := hD.R.B.cell 0
  have x1 : ((size : Int) == (size : Int)) = true := by simp
  clear h hwa hP hD
  go_enter Tryd.func44, Tryd.ntmps44
  go_upto_region 1 with fail
  rw [← HWA.out]
  go_wp2_with fail
  refine (words_any g gb size F wa HD.out.M).mono ?_
  rintro e w1 ⟨rfl, rfl⟩
  go_wp2_with fail
  go_ret
  exact ⟨rfl, rb, _, sv, tv, K, HD.out⟩

set_option maxRecDepth 100000 in
theorem plays_clear (d g gb r rb size : Nat) (F : Nat → Bool) (sv tv : Value) (K : List Sl) (a b c : Int) (w0 w : World) (h : Dk w0 w d g gb r rb size F sv tv K) :
    Calls Tryd.prog 44 #[.pointer (some ⟨d, 0, none⟩), .agg #[.int .i64 7, .int .i64 a, .int .i64 b, .int .i64 c]] w (PlayOk w0 d g gb r size) := by
  obtain ⟨wa, hwa⟩ : ∃ wa, wa = w.alloc (.cells #[.int .i64 7, .int .i64 a, .int .i64 b, .int .i64 c] 72) := ⟨_, rfl⟩
  obtain ⟨hP, hD⟩ := DOp.of h hwa
  have HWA := Lib.hid hwa
  have c0 : wa.cell? ⟨w.heap.size, 0, none⟩ = some (.int .i64 7) := hP.P.cell 0
  have c1 : wa.cell? ⟨w.heap.size, 1, none⟩ = some (.int .i64 a) := hP.P.cell 1
  have c2 : wa.cell? ⟨w.heap.size, 2, none⟩ = some (.int .i64 b) := hP.P.cell 2
  have d0 : wa.cell? ⟨d, 0, none⟩ = some (.pointer (some ⟨g, 0, none⟩)) := hP.B.cell 0
  have d1 : wa.cell? ⟨d, 1, none⟩ = some (.pointer (some ⟨r, 0, none⟩)) := hP.B.cell 1
  have HD := Lib.hid hD
  have HP := Lib.hid hP
  clear h hwa hP hD
  go_enter Tryd.func44, Tryd.ntmps44
  go_upto_region 1 with fail
  rw [← HWA.out]
  go_wp2_with fail
  refine (clear_any g gb size F wa HD.out.M).mono ?_
  rintro e w1 ⟨rfl, hM1, hf1⟩
  have hne : gb ≠ r ∧ gb ≠ rb := by
    obtain ⟨cs, hcs, _⟩ := HD.out.M.W
    exact ⟨hcs.ne HD.out.R.B (by decide), hcs.ne HD.out.R.R (by decide)⟩
  have hR1 : RefM w1 r rb size F := HD.out.R.fr hf1 (by simp [hne.1.symm]) (by simp [hne.2.symm])
  have e1 : w1.cell? ⟨d, 1, none⟩ = some (.pointer (some ⟨r, 0, none⟩)) := (HP.out.fr hf1 (by simp)).B.cell 1
  have HR1 := Lib.hid hR1
  have HM1 := Lib.hid hM1
  have HF1 := Lib.hid hf1
  clear hR1 hM1 hf1 c0 c1 c2 d0 d1 hne
  go_wp2_with fail
  refine (rclear_any r rb size F w1 HR1.out).mono ?_
  rintro e w2 ⟨rfl, rb', hR2, hf2, hrb⟩
  have HDK : Hid (Dk w0 w2 d g gb r rb' size (fun _ => false) sv tv K) := by
    refine HD.out.turn (S := [gb, r]) ((HF1.out.mono (by simp)).trans hf2 (by simp)) (fun x hx => by simp at hx; rcases hx with e | e <;> simp [e]) (HM1.out.fr hf2 (fun hx => ?_) (fun hx => ?_)) hR2 (.inr (Nat.le_trans HF1.out.size hrb))
    · exact HM1.out.B.ne HR1.out.B (by decide) (by simpa using hx)
    · obtain ⟨cs, hcs, _⟩ := HM1.out.W
      exact hcs.ne HR1.out.B (by decide) (by simpa using hx)
  clear hR2 hf2 e1
  go_wp2_with fail
  go_ret
  exact ⟨rfl, rb', _, sv, tv, K, HDK.out⟩

set_option maxRecDepth 100000 in
theorem plays_none (d g gb r rb size : Nat) (F : Nat → Bool) (sv tv : Value) (K : List Sl) (k a b c : Int) (w0 w : World) (h : Dk w0 w d g gb r rb size F sv tv K) (hk : ¬ (1 ≤ k ∧ k ≤ 11)) :
    Calls Tryd.prog 44 #[.pointer (some ⟨d, 0, none⟩), .agg #[.int .i64 k, .int .i64 a, .int .i64 b, .int .i64 c]] w (PlayOk w0 d g gb r size) := by
  obtain ⟨wa, hwa⟩ : ∃ wa, wa = w.alloc (.cells #[.int .i64 k, .int .i64 a, .int .i64 b, .int .i64 c] 72) := ⟨_, rfl⟩
  obtain ⟨hP, hD⟩ := DOp.of h hwa
  have HWA := Lib.hid hwa
  have c0 : wa.cell? ⟨w.heap.size, 0, none⟩ = some (.int .i64 k) := hP.P.cell 0
  have HD := Lib.hid hD
  have k1 : (k == 1) = false := by simpa using (show ¬ k = 1 by omega)
  have k2 : (k == 2) = false := by simpa using (show ¬ k = 2 by omega)
  have k3 : (k == 3) = false := by simpa using (show ¬ k = 3 by omega)
  have k4 : (k == 4) = false := by simpa using (show ¬ k = 4 by omega)
  have k5 : (k == 5) = false := by simpa using (show ¬ k = 5 by omega)
  have k6 : (k == 6) = false := by simpa using (show ¬ k = 6 by omega)
  have k7 : (k == 7) = false := by simpa using (show ¬ k = 7 by omega)
  have k8 : (k == 8) = false := by simpa using (show ¬ k = 8 by omega)
  have k9 : (k == 9) = false := by simpa using (show ¬ k = 9 by omega)
  have k10 : (k == 10) = false := by simpa using (show ¬ k = 10 by omega)
  have k11 : (k == 11) = false := by simpa using (show ¬ k = 11 by omega)
  clear h hwa hP hD
  go_enter Tryd.func44, Tryd.ntmps44
  go_upto_region 1 with fail
  rw [← HWA.out]
  go_wp2_with fail
  go_ret
  exact ⟨rfl, rb, _, sv, tv, K, HD.out⟩
end Go.Proofs.YtheiacfdbhjbmaaDoor
