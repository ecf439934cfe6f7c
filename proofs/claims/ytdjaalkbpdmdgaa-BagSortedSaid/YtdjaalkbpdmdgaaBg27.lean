/-
  Bag: the statement BagFrozen: what stands while the containers are filled (Fz).
-/
import Derived.Test.YtdjaalkbpdmdgaaBg26
namespace Go.Proofs.Ytdjaalkbpdmdgaa
open Go.RowKit Go.Shelf
set_option linter.unusedVariables false

def okT : List TypeId := [64, 65, 69, 3, 71, 4]
/-- Blocks that are no boxes of pointers or slices. -/
def OfC (w : World) (S : List Nat) : Prop := ∀ x ∈ S, ∃ t cs, Bk w x t cs ∧ t ∈ okT
theorem Sk.ofc {t : TypeId} {b0 : Nat} {w : World} {g : Nat} {most : Int} {v : Value} {l : List Int} (h : Sk t b0 w g most v l) (ht : t ∈ okT) : OfC w (skT g v) := by
  intro x hx
  simp only [skT, List.mem_cons, Option.mem_toList] at hx
  rcases hx with rfl | hx
  · exact ⟨_, _, h.B, ht⟩
  · obtain ⟨cs, hb⟩ := h.L.bk hx
    exact ⟨_, _, hb, by decide⟩
theorem TbN.ofc {b0 : Nat} {w : World} {g : Nat} {v : Value} {l : List PN} (h : TbN b0 w g v l) : OfC w (skT g v) := by
  intro x hx
  simp only [skT, List.mem_cons, Option.mem_toList] at hx
  rcases hx with rfl | hx
  · exact ⟨_, _, h.B, by decide⟩
  · obtain ⟨cs, hb⟩ := h.L.bk hx
    exact ⟨_, _, hb, by decide⟩
theorem OfC.nil (w : World) : OfC w [] := fun x hx => by cases hx
theorem OfC.cons {w : World} {S : List Nat} (h : OfC w S) {x : Nat} {t : TypeId} {cs : Array Value} (hb : Bk w x t cs) (ht : t ∈ okT) : OfC w (x :: S) := by
  intro y hy
  rcases List.mem_cons.1 hy with rfl | hy
  · exact ⟨_, _, hb, ht⟩
  · exact h y hy
theorem OfC.off {w : World} {S : List Nat} (h : OfC w S) {x : Nat} {t : TypeId} {cs : Array Value} (hb : Bk w x t cs) (ht : t ∉ okT) : x ∉ S := fun hx => by
  obtain ⟨t', cs', hb', ht'⟩ := h x hx
  unfold Bk at hb hb'
  rw [hb] at hb'
  injection hb' with hb'
  injection hb' with _ e
  subst e
  exact ht ht'

/-- The boxes that BagFrozen's variables lie in. -/
structure Bxs (bl bs bq bt xs xq xt gs gq gt : Nat) (A : Option Addr) (k c : Nat) (w : World) : Prop where
  L : Bk w bl 22 #[.slice A k c]
  S : Bk w bs 25 #[.pointer (some ⟨gs, 0, none⟩)]
  Q : Bk w bq 29 #[.pointer (some ⟨gq, 0, none⟩)]
  T : Bk w bt 38 #[.pointer (some ⟨gt, 0, none⟩)]
  XS : Bk w xs 25 #[.pointer (some ⟨gs, 0, none⟩)]
  XQ : Bk w xq 29 #[.pointer (some ⟨gq, 0, none⟩)]
  XT : Bk w xt 38 #[.pointer (some ⟨gt, 0, none⟩)]
theorem Bxs.fr {bl bs bq bt xs xq xt gs gq gt : Nat} {A : Option Addr} {k c : Nat} {w w' : World} {S : List Nat} (h : Bxs bl bs bq bt xs xq xt gs gq gt A k c w) (hf : Fr S w w') (hS : OfC w S) : Bxs bl bs bq bt xs xq xt gs gq gt A k c w' :=
  ⟨h.L.fr hf (hS.off h.L (by decide)), h.S.fr hf (hS.off h.S (by decide)), h.Q.fr hf (hS.off h.Q (by decide)), h.T.fr hf (hS.off h.T (by decide)), h.XS.fr hf (hS.off h.XS (by decide)), h.XQ.fr hf (hS.off h.XQ (by decide)), h.XT.fr hf (hS.off h.XT (by decide))⟩

structure Fz (w0 : World) (bl bs bq bt xs xq xt gs gq gt : Nat) (A : Option Addr) (k c : Nat) (lq ls : List Int) (lt : List PN) (w : World) : Prop where
  three : Three w0 gq gs gt lq ls lt w
  box : Bxs bl bs bq bt xs xq xt gs gq gt A k c w
section
variable {w0 : World} {bl bs bq bt xs xq xt gs gq gt : Nat} {A : Option Addr} {k c : Nat} {lq ls : List Int} {lt : List PN} {w : World}
theorem Fz.fr (h : Fz w0 bl bs bq bt xs xq xt gs gq gt A k c lq ls lt w) : Fr [] w0 w := h.three.choose_spec.choose_spec.choose_spec.2.2.2.2.2
theorem Fz.drew (h : Fz w0 bl bs bq bt xs xq xt gs gq gt A k c lq ls lt w) : Fz w0 bl bs bq bt xs xq xt gs gq gt A k c lq ls lt w.drew := by
  obtain ⟨vq, vs, vt, a1, a2, a3, a4, a5, a6⟩ := h.three
  have hf : Fr [] w w.drew := (Fr.refl [] w).drew
  exact ⟨⟨vq, vs, vt, a1.fr hf (by simp) (by simp), a2.fr hf (by simp) (by simp), a3.fr hf (by simp) (by simp), a4, a5, a6.drew⟩, h.box.fr hf (OfC.nil _)⟩
theorem Fz.put (h : Fz w0 bl bs bq bt xs xq xt gs gq gt A k c lq ls lt w) (x : Int) (hl : lq.length ≤ 1000000) :
    Calls Try.prog 12 #[.pointer (some ⟨gq, 0, none⟩), .int .i64 x] w fun e w' => e = .returned (.int .i64 0) ∧ Fz w0 bl bs bq bt xs xq xt gs gq gt A k c (lq ++ [x]) ls lt w' := by
  obtain ⟨vq, vs, vt, a1, a2, a3, a4, a5, a6⟩ := h.three
  refine (queue_add w0.heap.size gq 0 vq lq x w a1 (by unfold fullB; simp) (by omega) a6.size (by decide)).mono ?_
  intro e w' hto
  obtain ⟨he, ht⟩ := Three.q a1 a2 a3 a4 a5 a6 hto
  obtain ⟨_, _, _, hf, _⟩ := hto
  exact ⟨he, ht, h.box.fr hf (a1.ofc (by decide))⟩
theorem Fz.push (h : Fz w0 bl bs bq bt xs xq xt gs gq gt A k c lq ls lt w) (x : Int) (hl : ls.length ≤ 1000000) :
    Calls Try.prog 11 #[.pointer (some ⟨gs, 0, none⟩), .int .i64 x] w fun e w' => e = .returned (.int .i64 0) ∧ Fz w0 bl bs bq bt xs xq xt gs gq gt A k c lq (ls ++ [x]) lt w' := by
  obtain ⟨vq, vs, vt, a1, a2, a3, a4, a5, a6⟩ := h.three
  refine (stack_add w0.heap.size gs 0 vs ls x w a2 (by unfold fullB; simp) (by omega) a6.size (by decide)).mono ?_
  intro e w' hto
  obtain ⟨he, ht⟩ := Three.s a1 a2 a3 a4 a5 a6 hto
  obtain ⟨_, _, _, hf, _⟩ := hto
  exact ⟨he, ht, h.box.fr hf (a2.ofc (by decide))⟩
theorem Fz.set (j : Nat) (h : Fz w0 bl bs bq bt xs xq xt gs gq gt A k c lq ls (rowsN 7 j) w) (hl : j ≤ 1000000) :
    Calls Try.prog 19 #[.pointer (some ⟨gt, 0, none⟩), .int .i64 ((j : Nat) : Int), .int .u64 (((j : Nat) : Int) + 7)] w fun e w' => e = .returned (.bool true) ∧ Fz w0 bl bs bq bt xs xq xt gs gq gt A k c lq ls (rowsN 7 (j + 1)) w' := by
  obtain ⟨vq, vs, vt, a1, a2, a3, a4, a5, a6⟩ := h.three
  have hset := setN_any w0.heap.size gt vt (rowsN 7 j) ((j : Nat) : Int) ((j + 7 : Nat) : Int) w a3 (by rw [rowsN_length]; omega) a6.size
  rw [rowsN_set, rowsN_pb] at hset
  unfold kN vN at hset
  rw [show (((j + 7 : Nat) : Int)) = ((j : Nat) : Int) + 7 by omega] at hset
  refine hset.mono ?_
  intro e w' hto
  obtain ⟨he, ht⟩ := Three.t a1 a2 a3 a4 a5 a6 hto
  obtain ⟨_, _, _, hf, _⟩ := hto
  exact ⟨he, ht, h.box.fr hf a3.ofc⟩
end
end Go.Proofs.Ytdjaalkbpdmdgaa
