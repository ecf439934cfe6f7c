/-
  Bag: BagFrozen's three walks.
-/
import Derived.Test.YtdjaalkbpdmdgaaBg27
namespace Go.Proofs.Ytdjaalkbpdmdgaa
open Go.RowKit Go.Shelf
set_option linter.unusedVariables false

/-- What is left of the containers once the stack has been gone through; all of it lies below M. -/
def Gz (w0 : World) (M gq gt : Nat) (lq : List Int) (lt : List PN) (w : World) : Prop :=
  ∃ vq vt, Sk 65 w0.heap.size w gq 0 vq lq ∧ TbN w0.heap.size w gt vt lt ∧ (∀ x ∈ skT gq vq, x < M ∧ x ∉ skT gt vt) ∧ (∀ x ∈ skT gt vt, x < M) ∧ Fr [] w0 w
theorem Gz.fr {w0 : World} {M gq gt : Nat} {lq : List Int} {lt : List PN} {w w' : World} {S : List Nat} (h : Gz w0 M gq gt lq lt w) (hf : Fr S w w') (hS : ∀ x ∈ S, M ≤ x) (h0 : w0.heap.size ≤ M) : Gz w0 M gq gt lq lt w' := by
  obtain ⟨vq, vt, a1, a2, a3, a4, a5⟩ := h
  obtain ⟨p1, p2⟩ := sk_off (S := S) (fun x hx hs => by have := (a3 x hx).1; have := hS x hs; omega)
  obtain ⟨p3, p4⟩ := sk_off (S := S) (fun x hx hs => by have := a4 x hx; have := hS x hs; omega)
  exact ⟨vq, vt, a1.fr hf p1 p2, a2.fr hf p3 p4, a3, a4, a5.trans hf (fun x hx => .inr (Nat.le_trans h0 (hS x hx)))⟩
section
variable {w0 : World} {bl bs bq bt xs xq xt gs gq gt : Nat} {A : Option Addr} {k c : Nat} {lq ls : List Int} {lt : List PN} {wr z : World} {bo bn bm M : Nat} {more : Int}

set_option maxRecDepth 100000 in
theorem walkS {L : List Int} (hx : Fz w0 bl bs bq bt xs xq xt gs gq gt A L.length c lq L lt wr) (hf : Fr [] wr z) (hO : Bk z bo 4 #[.bool true]) (hN : Bk z bn 3 #[.int .i64 0]) (hbo : wr.heap.size ≤ bo) (hbn : wr.heap.size ≤ bn)
    (hM : Bk w0 bm 3 #[.int .i64 more]) (hR : RdI w0 A L) (hA : ∀ a, A = some a → L ≠ [] → a.block < w0.heap.size) (hL : L.length ≤ 500) :
    Calls Try.prog 54 #[.func (.func 30) #[] #[.pointer (some ⟨bo, 0, none⟩), .pointer (some ⟨bn, 0, none⟩), .pointer (some ⟨bl, 0, none⟩), .pointer (some ⟨bs, 0, none⟩), .pointer (some ⟨bm, 0, none⟩)], .pointer (some ⟨xs, 0, none⟩)] z
      fun e w' => e = .returned (.tuple #[]) ∧ Bk w' bo 4 #[.bool true] ∧ Bk w' bn 3 #[.int .i64 (L.length : Nat)] ∧ Gz w0 wr.heap.size gq gt lq lt w' ∧ Bxs bl bs bq bt xs xq xt gs gq gt A L.length c w' := by
  obtain ⟨vq, vs, vt, a1, a2, a3, a4, a5, a6⟩ := hx.three
  have hS := a2.fr hf (by simp) (by simp)
  have hB := hx.box.fr hf (OfC.nil _)
  have hwz := hf.size
  have hws := a6.size
  have h0z := Nat.le_trans a6.size hwz
  have hT0 : ∀ x ∈ skT gs vs, x < wr.heap.size ∧ w0.heap.size ≤ x := fun x h => ⟨a2.lt x h, a2.base x h⟩
  have hMz : Bk z bm 3 #[.int .i64 more] := (hM.fr a6 (by simp)).fr hf (by simp)
  have hbm := hM.lt
  have nbo : bo ∉ skT gs vs := fun h => by have := hT0 bo h; omega
  have nbn : bn ∉ skT gs vs := fun h => by have := hT0 bn h; omega
  have nbm : bm ∉ skT gs vs := fun h => by have := hT0 bm h; omega
  have hOf := hS.ofc (by decide)
  have nbs : bs ∉ skT gs vs := hOf.off hB.S (by decide)
  have nbl : bl ∉ skT gs vs := hOf.off hB.L (by decide)
  have e1 : bl ≠ bo := hB.L.ne hO (by decide)
  have e2 : bl ≠ bn := hB.L.ne hN (by decide)
  have e3 : bs ≠ bo := hB.S.ne hO (by decide)
  have e4 : bs ≠ bn := hB.S.ne hN (by decide)
  have e5 : bm ≠ bo := by omega
  have e6 : bm ≠ bn := by omega
  have hTz : ∀ x ∈ bo :: bn :: skT gs vs, x < z.heap.size := fun x hx => by
    simp only [List.mem_cons] at hx
    rcases hx with rfl | rfl | h
    · exact hO.lt
    · exact hN.lt
    · have := hT0 x h; omega
  refine (stack_all1 w0.heap.size gs 0 vs L (by omega) z hS xs 30 #[.pointer (some ⟨bo, 0, none⟩), .pointer (some ⟨bn, 0, none⟩), .pointer (some ⟨bl, 0, none⟩), .pointer (some ⟨bs, 0, none⟩), .pointer (some ⟨bm, 0, none⟩)] (hB.XS.cell 0) (enters_of Try.func30 (by kernel_rfl) rfl)
    (bo :: bn :: skT gs vs) hTz
    (fun n₀ => FU 64 w0.heap.size n₀ (skT gs vs) bo bn gs L.length) (fun _ _ _ => False)
    (fun n₀ W h1 h2 h3 => ⟨hO.fr h3 (by simp), hN.fr h3 (by simp), vs, L, hS.fr h3 (by simp) (by simp), by simp, fun x h => .inl h⟩)
    (fun n₀ pre x W h1 h2 h3 h4 h5 => frozen_stack w0.heap.size n₀ bo bn bl bs bm gs L.length (skT gs vs) A c L more pre x W h5 (h4.bk hB.L (by have := hB.L.lt; omega) (by simp [e1, e2, nbl])) (h4.bk hB.S (by have := hB.S.lt; omega) (by simp [e3, e4, nbs])) (h4.bk hMz (by omega) (by simp [e5, e6, nbm])) e6
      ⟨hR.1, fun h0 => by
        obtain ⟨b, o, q1, q2, q3⟩ := hR.2 h0
        have q2' : b < w0.heap.size := q2
        refine ⟨b, o, q1, Nat.lt_of_lt_of_le q2 (by have := h4.size; omega), fun i y hy => ?_⟩
        have nb : b ∉ bo :: bn :: skT gs vs := by
          simp only [List.mem_cons, not_or]
          exact ⟨by omega, by omega, fun h => by have := hT0 b h; omega⟩
        exact (World.cell?_of_block (h4.block b (by omega) (by omega) nb)).trans ((World.cell?_of_block ((a6.trans hf (by simp)).block b q2 (by simp))).trans (q3 i y hy))⟩
      h3 hL (by omega) ⟨by have := hO.lt; omega, by have := hN.lt; omega, by have := hB.S.lt; omega, by omega⟩ ⟨nbo, nbn, nbs, nbm⟩ (by have := h4.size; omega) h2)).mono ?_
  rintro e w' ⟨rfl, hf3, n₀, hn1, hn2, hu⟩
  rcases hu with ⟨q1, q2, _⟩ | ⟨_, _, h⟩
  · rw [List.length_reverse] at q2
    have o1 : ∀ x ∈ skT gq vq, x ∉ bo :: bn :: skT gs vs := fun x hx => by
      have h1 := a1.lt x hx
      simp only [List.mem_cons, not_or]
      exact ⟨by omega, by omega, (a4 x hx).1⟩
    have o2 : ∀ x ∈ skT gt vt, x ∉ bo :: bn :: skT gs vs := fun x hx => by
      have h1 := a3.lt x hx
      simp only [List.mem_cons, not_or]
      exact ⟨by omega, by omega, fun h => a5 x h hx⟩
    obtain ⟨p1, p2⟩ := sk_off o1
    obtain ⟨p3, p4⟩ := sk_off o2
    refine ⟨rfl, q1, q2, ⟨vq, vt, (a1.fr hf (by simp) (by simp)).fr hf3 p1 p2, (a3.fr hf (by simp) (by simp)).fr hf3 p3 p4, fun x hx => ⟨a1.lt x hx, (a4 x hx).2⟩, fun x hx => a3.lt x hx, (a6.trans hf (by simp)).trans hf3 (fun x hx => .inr ?_)⟩, hB.fr hf3 ((hOf.cons hN (by decide)).cons hO (by decide))⟩
    simp only [List.mem_cons] at hx
    rcases hx with rfl | rfl | h
    · have := a6.size; omega
    · have := a6.size; omega
    · exact (hT0 x h).2
  · exact h.elim

set_option maxRecDepth 100000 in
theorem walkQ {L : List Int} (hx : Gz w0 M gq gt L lt z) (hB : Bxs bl bs bq bt xs xq xt gs gq gt A L.length c z) (hO : Bk z bo 4 #[.bool true]) (hN : Bk z bn 3 #[.int .i64 0]) (hbo : M ≤ bo) (hbn : M ≤ bn) (h0M : w0.heap.size ≤ M)
    (hM : Bk w0 bm 3 #[.int .i64 more]) (hR : RdI w0 A L) (hL : L.length ≤ 500) :
    Calls Try.prog 50 #[.func (.func 31) #[] #[.pointer (some ⟨bo, 0, none⟩), .pointer (some ⟨bn, 0, none⟩), .pointer (some ⟨bl, 0, none⟩), .pointer (some ⟨bq, 0, none⟩), .pointer (some ⟨bm, 0, none⟩)], .pointer (some ⟨xq, 0, none⟩)] z
      fun e w' => e = .returned (.tuple #[]) ∧ Bk w' bo 4 #[.bool true] ∧ Bk w' bn 3 #[.int .i64 (L.length : Nat)] ∧ (∃ vt, TbN w0.heap.size w' gt vt lt ∧ ∀ x ∈ skT gt vt, x < M) ∧ Fr [] w0 w' ∧ Bxs bl bs bq bt xs xq xt gs gq gt A L.length c w' := by
  obtain ⟨vq, vt, hS, a3, a4, a5, a6⟩ := hx
  have h0z := a6.size
  have hT0 : ∀ x ∈ skT gq vq, x < M ∧ w0.heap.size ≤ x := fun x h => ⟨(a4 x h).1, hS.base x h⟩
  have hMz : Bk z bm 3 #[.int .i64 more] := hM.fr a6 (by simp)
  have hbm := hM.lt
  have nbo : bo ∉ skT gq vq := fun h => by have := hT0 bo h; omega
  have nbn : bn ∉ skT gq vq := fun h => by have := hT0 bn h; omega
  have nbm : bm ∉ skT gq vq := fun h => by have := hT0 bm h; omega
  have hOf := hS.ofc (by decide)
  have nbs : bq ∉ skT gq vq := hOf.off hB.Q (by decide)
  have nbl : bl ∉ skT gq vq := hOf.off hB.L (by decide)
  have e1 : bl ≠ bo := hB.L.ne hO (by decide)
  have e2 : bl ≠ bn := hB.L.ne hN (by decide)
  have e3 : bq ≠ bo := hB.Q.ne hO (by decide)
  have e4 : bq ≠ bn := hB.Q.ne hN (by decide)
  have e5 : bm ≠ bo := by omega
  have e6 : bm ≠ bn := by omega
  have hTz : ∀ x ∈ bo :: bn :: skT gq vq, x < z.heap.size := fun x hx => by
    simp only [List.mem_cons] at hx
    rcases hx with rfl | rfl | h
    · exact hO.lt
    · exact hN.lt
    · exact hS.lt x h
  refine (queue_all1 w0.heap.size gq 0 vq L (by omega) z hS xq 31 #[.pointer (some ⟨bo, 0, none⟩), .pointer (some ⟨bn, 0, none⟩), .pointer (some ⟨bl, 0, none⟩), .pointer (some ⟨bq, 0, none⟩), .pointer (some ⟨bm, 0, none⟩)] (hB.XQ.cell 0) (enters_of Try.func31 (by kernel_rfl) rfl)
    (bo :: bn :: skT gq vq) hTz
    (fun n₀ => FU 65 w0.heap.size n₀ (skT gq vq) bo bn gq L.length) (fun _ _ _ => False)
    (fun n₀ W h1 h2 h3 => ⟨hO.fr h3 (by simp), hN.fr h3 (by simp), vq, L, hS.fr h3 (by simp) (by simp), by simp, fun x h => .inl h⟩)
    (fun n₀ pre x W h1 h2 h3 h4 h5 => frozen_queue w0.heap.size n₀ bo bn bl bq bm gq L.length (skT gq vq) A c L more pre x W h5 (h4.bk hB.L (by have := hB.L.lt; omega) (by simp [e1, e2, nbl])) (h4.bk hB.Q (by have := hB.Q.lt; omega) (by simp [e3, e4, nbs])) (h4.bk hMz (by omega) (by simp [e5, e6, nbm])) e6
      ⟨hR.1, fun h0 => by
        obtain ⟨b, o, q1, q2, q3⟩ := hR.2 h0
        have q2' : b < w0.heap.size := q2
        refine ⟨b, o, q1, Nat.lt_of_lt_of_le q2 (by have := h4.size; omega), fun i y hy => ?_⟩
        have nb : b ∉ bo :: bn :: skT gq vq := by
          simp only [List.mem_cons, not_or]
          exact ⟨by omega, by omega, fun h => by have := hT0 b h; omega⟩
        exact (World.cell?_of_block (h4.block b (by omega) (by omega) nb)).trans ((World.cell?_of_block (a6.block b q2 (by simp))).trans (q3 i y hy))⟩
      h3 hL (by omega) ⟨by have := hO.lt; omega, by have := hN.lt; omega, by have := hB.Q.lt; omega, by omega⟩ ⟨nbo, nbn, nbs, nbm⟩ (by have := h4.size; omega) h2)).mono ?_
  rintro e w' ⟨rfl, hf3, n₀, hn1, hn2, hu⟩
  rcases hu with ⟨q1, q2, _⟩ | ⟨_, _, h⟩
  · have o2 : ∀ x ∈ skT gt vt, x ∉ bo :: bn :: skT gq vq := fun x hx => by
      have h1 := a5 x hx
      simp only [List.mem_cons, not_or]
      exact ⟨by omega, by omega, fun h => (a4 x h).2 hx⟩
    obtain ⟨p3, p4⟩ := sk_off o2
    refine ⟨rfl, q1, q2, ⟨vt, a3.fr hf3 p3 p4, a5⟩, a6.trans hf3 (fun x hx => .inr ?_), hB.fr hf3 ((hOf.cons hN (by decide)).cons hO (by decide))⟩
    simp only [List.mem_cons] at hx
    rcases hx with rfl | rfl | h
    · omega
    · omega
    · exact (hT0 x h).2
  · exact h.elim

set_option maxRecDepth 100000 in
theorem walkT {vt : Value} (hS : TbN w0.heap.size z gt vt (rowsN 7 k)) (hlt : ∀ x ∈ skT gt vt, x < M) (hB : Bxs bl bs bq bt xs xq xt gs gq gt A k c z) (hO : Bk z bo 4 #[.bool true]) (hN : Bk z bn 3 #[.int .i64 0]) (hbo : M ≤ bo) (hbn : M ≤ bn) (h0M : w0.heap.size ≤ M)
    (a6 : Fr [] w0 z) (hL : k ≤ 500) :
    Calls Try.prog 42 #[.func (.func 32) #[] #[.pointer (some ⟨bo, 0, none⟩), .pointer (some ⟨bn, 0, none⟩), .pointer (some ⟨bl, 0, none⟩), .pointer (some ⟨bt, 0, none⟩)], .pointer (some ⟨xt, 0, none⟩)] z
      fun e w' => e = .returned (.tuple #[]) ∧ Bk w' bo 4 #[.bool true] ∧ Bk w' bn 3 #[.int .i64 (k : Nat)] ∧ Fr [] w0 w' ∧ Bxs bl bs bq bt xs xq xt gs gq gt A k c w' := by
  have h0z := a6.size
  have hT0 : ∀ x ∈ skT gt vt, x < M ∧ w0.heap.size ≤ x := fun x h => ⟨hlt x h, hS.base x h⟩
  have nbo : bo ∉ skT gt vt := fun h => by have := hT0 bo h; omega
  have nbn : bn ∉ skT gt vt := fun h => by have := hT0 bn h; omega
  have hOf := hS.ofc
  have nbs : bt ∉ skT gt vt := hOf.off hB.T (by decide)
  have nbl : bl ∉ skT gt vt := hOf.off hB.L (by decide)
  have e1 : bl ≠ bo := hB.L.ne hO (by decide)
  have e2 : bl ≠ bn := hB.L.ne hN (by decide)
  have e3 : bt ≠ bo := hB.T.ne hO (by decide)
  have e4 : bt ≠ bn := hB.T.ne hN (by decide)
  have hTz : ∀ x ∈ bo :: bn :: skT gt vt, x < z.heap.size := fun x hx => by
    simp only [List.mem_cons] at hx
    rcases hx with rfl | rfl | h
    · exact hO.lt
    · exact hN.lt
    · exact hS.lt x h
  refine (table_all1 w0.heap.size gt vt (rowsN 7 k) (by rw [rowsN_length]; omega) z hS xt 32 #[.pointer (some ⟨bo, 0, none⟩), .pointer (some ⟨bn, 0, none⟩), .pointer (some ⟨bl, 0, none⟩), .pointer (some ⟨bt, 0, none⟩)] (hB.XT.cell 0) (enters_of Try.func32 (by kernel_rfl) rfl)
    (bo :: bn :: skT gt vt) hTz
    (fun n₀ => FUN w0.heap.size n₀ (skT gt vt) bo bn gt k) (fun _ _ _ => False) (fun n₀ pre W o h => h.alloc o)
    (fun n₀ W h1 h2 h3 => ⟨hO.fr h3 (by simp), hN.fr h3 (by simp), vt, rowsN 7 k, hS.fr h3 (by simp) (by simp), by rw [rowsN_length]; simp, fun x h => .inl h⟩)
    (fun n₀ pre x W h1 h2 h3 h4 h5 => frozen_table w0.heap.size n₀ bo bn bl bt gt k (skT gt vt) A c k pre x W h5 (h4.bk hB.L (by have := hB.L.lt; omega) (by simp [e1, e2, nbl])) (h4.bk hB.T (by have := hB.T.lt; omega) (by simp [e3, e4, nbs]))
      h3 hL (by omega) ⟨by have := hO.lt; omega, by have := hN.lt; omega, by have := hB.T.lt; omega⟩ ⟨nbo, nbn, nbs⟩ (by have := h4.size; omega) h2)).mono ?_
  rintro e w' ⟨rfl, hf3, n₀, hn1, hn2, hu⟩
  rcases hu with ⟨q1, q2, _⟩ | ⟨_, _, h⟩
  · rw [rowsN_length] at q2
    refine ⟨rfl, q1, q2, a6.trans hf3 (fun x hx => .inr ?_), hB.fr hf3 ((hOf.cons hN (by decide)).cons hO (by decide))⟩
    simp only [List.mem_cons] at hx
    rcases hx with rfl | rfl | h
    · omega
    · omega
    · exact (hT0 x h).2
  · exact h.elim
end
end Go.Proofs.Ytdjaalkbpdmdgaa
