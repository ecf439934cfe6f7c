/-
  Marks: the desk's slides: one more slide.
-/
import Derived.Test.YtheiacfdbhjbmaaDoorMkDk3
namespace Go.Proofs.YtheiacfdbhjbmaaDoor
open Go.RowKit Go.Shelf Mk
set_option linter.unusedVariables false

theorem ptr_info : (Tryd.prog.info? 27).map (fun i => (i.zero, i.size, i.bytes)) = some (some (.pointer none), 1, 8) := by kernel_rfl
theorem rptr_info : (Tryd.prog.info? 89).map (fun i => (i.zero, i.size, i.bytes)) = some (some (.pointer none), 1, 8) := by kernel_rfl

theorem Dk.lt {w0 w : World} {d g gb r rb size : Nat} {F : Nat → Bool} {sv tv : Value} {K : List Sl} (h : Dk w0 w d g gb r rb size F sv tv K) : ∀ x ∈ dkT d r gb rb sv tv, x < w.heap.size := by
  intro x hx
  obtain ⟨cs, hcs, _⟩ := h.M.W
  simp only [dkT, List.mem_cons, List.mem_append, Option.mem_toList] at hx
  rcases hx with rfl | rfl | rfl | rfl | hx | hx
  · exact h.B.lt
  · exact h.R.B.lt
  · exact hcs.lt
  · exact h.R.R.lt
  · exact (h.S.lt x hx).2
  · exact (h.T.lt x hx).2

/-- One more slide is kept. -/
theorem Dk.push {w0 w w' : World} {d g gb r rb size : Nat} {F : Nat → Bool} {sv tv sv' tv' : Value} {K : List Sl} (h : Dk w0 w d g gb r rb size F sv tv K) (s : Sl) (hs : s.ok w size) (hb : ∀ x ∈ s.bl, x < w.heap.size ∧ x ∉ dkT d r gb rb sv tv)
    (hf : Fr (d :: (sv.ownBlock.toList ++ tv.ownBlock.toList)) w w') (hB : Bk w' d 81 #[.pointer (some ⟨g, 0, none⟩), .pointer (some ⟨r, 0, none⟩), sv', tv'])
    (hS : Lst w' w0.heap.size 27 1 sv' (K.length + 1) ((K.map fun s => .pointer (some ⟨s.gs, 0, none⟩)) ++ [.pointer (some ⟨s.gs, 0, none⟩)]))
    (hT : Lst w' w0.heap.size 89 1 tv' (K.length + 1) ((K.map fun s => .pointer (some ⟨s.rs, 0, none⟩)) ++ [.pointer (some ⟨s.rs, 0, none⟩)]))
    (h1 : ∀ x, sv'.ownBlock = some x → sv.ownBlock = some x ∨ w.heap.size ≤ x) (h2 : ∀ x, tv'.ownBlock = some x → tv.ownBlock = some x ∨ w.heap.size ≤ x) (h6 : K.length < 6) :
    Dk w0 w' d g gb r rb size F sv' tv' (K ++ [s]) := by
  obtain ⟨cs, hcs, _⟩ := h.M.W
  have hsub : ∀ x ∈ d :: (sv.ownBlock.toList ++ tv.ownBlock.toList), x ∈ dkT d r gb rb sv tv := by
    intro x hx
    simp only [dkT, List.mem_cons, List.mem_append] at hx ⊢
    rcases hx with e | e | e
    · exact .inl e
    · exact .inr (.inr (.inr (.inr (.inl e))))
    · exact .inr (.inr (.inr (.inr (.inr e))))
  have nb : ∀ {b : Nat} {t : TypeId} {c : Array Value}, Bk w b t c → t ≠ 81 → t ≠ 27 → t ≠ 89 → b ∉ d :: (sv.ownBlock.toList ++ tv.ownBlock.toList) := by
    intro b t c hb e1 e2 e3 hx
    simp only [List.mem_cons, List.mem_append, Option.mem_toList] at hx
    rcases hx with e | e | e
    · exact hb.ne h.B e1 e
    · exact h.S.ne_bk hb (Ne.symm e2) _ e rfl
    · exact h.T.ne_bk hb (Ne.symm e3) _ e rfl
  have hfa : ∀ q : Sl, q.ok w size → (∀ x ∈ q.bl, x < w.heap.size ∧ x ∉ dkT d r gb rb sv tv) → q.ok w' size ∧ ∀ x ∈ q.bl, x < w'.heap.size ∧ x ∉ dkT d r gb rb sv' tv' := by
    intro q hq hqb
    refine ⟨hq.fr hf (fun x hx hxS => (hqb x hx).2 (hsub x hxS)), fun x hx => ⟨Nat.lt_of_lt_of_le (hqb x hx).1 hf.size, fun hxT => ?_⟩⟩
    obtain ⟨k1, k2⟩ := hqb x hx
    simp only [dkT, List.mem_cons, List.mem_append, Option.mem_toList, not_or] at hxT k2
    rcases hxT with e | e | e | e | e | e
    · exact k2.1 e
    · exact k2.2.1 e
    · exact k2.2.2.1 e
    · exact k2.2.2.2.1 e
    · rcases h1 x e with e' | e'
      · exact k2.2.2.2.2.1 e'
      · omega
    · rcases h2 x e with e' | e'
      · exact k2.2.2.2.2.2 e'
      · omega
  refine ⟨hB, h.M.fr hf (nb h.M.B (by decide) (by decide) (by decide)) (nb hcs (by decide) (by decide) (by decide)), h.R.fr hf (nb h.R.B (by decide) (by decide) (by decide)) (nb h.R.R (by decide) (by decide) (by decide)),
    h.O.fr hf (fun hx => by have := h.base 0 (hsub 0 hx); have := h.o; omega), by simpa using hS, by simpa using hT, fun q hq => ?_, by simp; omega, h.F0.trans hf (fun x hx => .inr (h.base x (hsub x hx))), h.nd, h.nr, h.ng, h.nb, h.z, h.o⟩
  rcases List.mem_append.1 hq with hq | hq
  · exact hfa q (h.A q hq).1 (h.A q hq).2
  · have : q = s := by simpa using hq
    subst this
    exact hfa q hs hb

theorem DOp.e0 {W : World} {d g gb r rb bo : Nat} {sv tv : Value} {k a b c : Int} (h : DOp W d g gb r rb bo sv tv k a b c) : W.cell? ⟨d, 0, none⟩ = some (.pointer (some ⟨g, 0, none⟩)) ∧ W.cell? ⟨bo, 1, none⟩ = some (.int .i64 a) ∧ W.cell? ⟨bo, 2, none⟩ = some (.int .i64 b) ∧ W.cell? ⟨bo, 3, none⟩ = some (.int .i64 c) := ⟨h.B.cell 0, h.P.cell 1, h.P.cell 2, h.P.cell 3⟩
theorem DOp.e1 {W : World} {d g gb r rb bo : Nat} {sv tv : Value} {k a b c : Int} (h : DOp W d g gb r rb bo sv tv k a b c) : W.cell? ⟨d, 1, none⟩ = some (.pointer (some ⟨r, 0, none⟩)) ∧ W.cell? ⟨bo, 1, none⟩ = some (.int .i64 a) ∧ W.cell? ⟨bo, 2, none⟩ = some (.int .i64 b) ∧ W.cell? ⟨bo, 3, none⟩ = some (.int .i64 c) := ⟨h.B.cell 1, h.P.cell 1, h.P.cell 2, h.P.cell 3⟩

set_option maxRecDepth 100000 in
set_option maxHeartbeats 1600000 in
theorem slides_bad (d g gb r rb size : Nat) (F : Nat → Bool) (sv tv : Value) (K : List Sl) (a b c : Int) (w0 w : World) (h : Dk w0 w d g gb r rb size F sv tv K) (hbad : ¬ (0 ≤ a ∧ b ≤ size ∧ a ≤ b ∧ 0 ≤ c ∧ c ≤ 1048576)) :
    Calls Tryd.prog 55 #[.pointer (some ⟨d, 0, none⟩), .agg #[.int .i64 8, .int .i64 a, .int .i64 b, .int .i64 c]] w (PlayOk w0 d g gb r size) := by
  obtain ⟨wa, hwa⟩ : ∃ wa, wa = w.alloc (.cells #[.int .i64 8, .int .i64 a, .int .i64 b, .int .i64 c] 72) := ⟨_, rfl⟩
  obtain ⟨hP, hD⟩ := DOp.of h hwa
  have HWA := Lib.hid hwa
  have HP := Lib.hid (hP.fr ((Fr.refl [] _).drew) (by simp))
  have HD := Lib.hid (hD.ask ((Fr.refl [] _).drew))
  have c0 : wa.cell? ⟨w.heap.size, 0, none⟩ = some (.int .i64 8) := hP.P.cell 0
  clear h hwa hP hD
  go_enter Tryd.func55, Tryd.ntmps55
  go_upto_region 1 with fail
  rw [← HWA.out]
  go_upto_region 2 with fail
  clear c0
  go_region_held3 (fun W => W.cell? ⟨d, 0, none⟩ = some (.pointer (some ⟨g, 0, none⟩)) ∧ W.cell? ⟨w.heap.size, 1, none⟩ = some (.int .i64 a) ∧ W.cell? ⟨w.heap.size, 2, none⟩ = some (.int .i64 b) ∧ W.cell? ⟨w.heap.size, 3, none⟩ = some (.int .i64 c)) ((first | exact HP.out.e0))
    ((go_at_call 14; refine (slide_refused g gb size F a b c _ HD.out.M hbad).mono ?_; rintro e w1 ⟨rfl, rfl⟩))
  have HP1 := Lib.hid (HP.out.fr ((Fr.refl [] _).drew) (by simp))
  have HD1 := Lib.hid (HD.out.ask ((Fr.refl [] _).drew))
  go_upto_region 3 with fail
  go_region_held3 (fun W => W.cell? ⟨d, 1, none⟩ = some (.pointer (some ⟨r, 0, none⟩)) ∧ W.cell? ⟨w.heap.size, 1, none⟩ = some (.int .i64 a) ∧ W.cell? ⟨w.heap.size, 2, none⟩ = some (.int .i64 b) ∧ W.cell? ⟨w.heap.size, 3, none⟩ = some (.int .i64 c)) ((first | exact HP1.out.e1))
    ((go_at_call 59; refine (rslide_refused r rb size F a b c _ HD1.out.R hbad).mono ?_; rintro e w2 ⟨rfl, rfl⟩))
  go_wp2_with fail
  refine (num_any 41 _).mono ?_
  rintro e w3 ⟨rfl, rfl⟩
  go_wp2_with fail
  go_ret
  exact ⟨rfl, rb, _, sv, tv, K, HD1.out⟩
end Go.Proofs.YtheiacfdbhjbmaaDoor
