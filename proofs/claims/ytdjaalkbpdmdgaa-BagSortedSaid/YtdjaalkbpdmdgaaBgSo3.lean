/-
  Bag: the statement BagSorted.
-/
import Derived.Test.YtdjaalkbpdmdgaaBgSo2
namespace Go.Proofs.Ytdjaalkbpdmdgaa
open Go.RowKit Go.Shelf
set_option linter.unusedVariables false

/-- A table with the boxes that BagSorted's variables lie in. -/
structure So (w0 : World) (bt bl g : Nat) (A : Option Addr) (m c : Nat) (T : List PN) (w : World) : Prop where
  tab : ∃ v, TbN w0.heap.size w g v T
  fr : Fr [] w0 w
  t : Bk w bt 38 #[.pointer (some ⟨g, 0, none⟩)]
  l : Bk w bl 22 #[.slice A m c]
section
variable {w0 : World} {bt bl g : Nat} {A : Option Addr} {m c : Nat} {T : List PN} {w w' : World}
theorem So.nil (h : So w0 bt bl g A m c T w) (hf : Fr [] w w') : So w0 bt bl g A m c T w' := by
  obtain ⟨v, hv⟩ := h.tab
  exact ⟨⟨v, hv.fr hf (by simp) (by simp)⟩, h.fr.trans hf (by simp), h.t.fr hf (by simp), h.l.fr hf (by simp)⟩
theorem So.to {v : Value} {T' : List PN} {r : Value} {e : Ending} (h : So w0 bt bl g A m c T w) (hv : TbN w0.heap.size w g v T) (ht : TbNTo w0.heap.size g v T' r w e w') : e = .returned r ∧ So w0 bt bl g A m c T' w' := by
  obtain ⟨he, v', k1, k2, k3⟩ := ht
  have ho := hv.ofc
  exact ⟨he, ⟨v', k1⟩, hv.step h.fr (Nat.le_refl _) k2, h.t.fr k2 (ho.off h.t (by decide)), h.l.fr k2 (ho.off h.l (by decide))⟩
theorem So.set (h : So w0 bt bl g A m c T w) (k x : Int) (hl : T.length ≤ 1000000) :
    Calls Try.prog 19 #[.pointer (some ⟨g, 0, none⟩), .int .i64 k, .int .u64 x] w fun e w' => (∃ r, e = .returned r) ∧ So w0 bt bl g A m c (tsetN T k x) w' := by
  obtain ⟨v, hv⟩ := h.tab
  exact (setN_any w0.heap.size g v T k x w hv (by omega) h.fr.size).mono fun e w' ht => ⟨⟨_, (h.to hv ht).1⟩, (h.to hv ht).2⟩
theorem So.drop (h : So w0 bt bl g A m c T w) (k : Int) (hl : T.length ≤ 1000000) :
    Calls Try.prog 20 #[.pointer (some ⟨g, 0, none⟩), .int .i64 k] w fun e w' => (∃ r, e = .returned r) ∧ So w0 bt bl g A m c (tdropN T k) w' := by
  obtain ⟨v, hv⟩ := h.tab
  exact (dropN_any w0.heap.size g v T k w hv (by omega)).mono fun e w' ht => ⟨⟨_, (h.to hv ht).1⟩, (h.to hv ht).2⟩
theorem So.len (h : So w0 bt bl g A m c T w) :
    Calls Try.prog 25 #[.pointer (some ⟨g, 0, none⟩)] w fun e w' => e = .returned (.int .i64 (T.length : Nat)) ∧ w = w' := by
  obtain ⟨v, hv⟩ := h.tab
  exact tbN_len w0.heap.size g v T w hv
theorem So.near_none (h : So w0 bt bl g A m c T w) (hr : Rise T) (k : Int) (hl : T.length ≤ 1000000) (hn : nearK T k = none) :
    Calls Try.prog 24 #[.pointer (some ⟨g, 0, none⟩), .int .i64 k] w fun e w' => e = .returned (.tuple #[.int .i64 0, .int .u64 0, .bool false]) ∧ Fr [] w w' := by
  obtain ⟨v, hv⟩ := h.tab
  have := nearN_any w0.heap.size g v T k w hv (by omega)
  rw [nrN_none hr hn] at this
  exact this.mono fun e w' ⟨h1, h2⟩ => ⟨h1, h2⟩
theorem So.near_some (h : So w0 bt bl g A m c T w) (hr : Rise T) (k q : Int) (hl : T.length ≤ 1000000) (hn : nearK T k = some q) :
    Calls Try.prog 24 #[.pointer (some ⟨g, 0, none⟩), .int .i64 k] w fun e w' => (∃ u, e = .returned (.tuple #[.int .i64 q, .int .u64 u, .bool true])) ∧ Fr [] w w' := by
  obtain ⟨v, hv⟩ := h.tab
  have := nearN_any w0.heap.size g v T k w hv (by omega)
  obtain ⟨u, hu⟩ := nrN_some hr hn
  rw [hu] at this
  exact this.mono fun e w' ⟨h1, h2⟩ => ⟨⟨u, h1⟩, h2⟩
theorem So.get_none (h : So w0 bt bl g A m c T w) (k : Int) (hl : T.length ≤ 1000000) (hn : gtN T k = none) :
    Calls Try.prog 23 #[.pointer (some ⟨g, 0, none⟩), .int .i64 k] w fun e w' => e = .returned (.tuple #[.int .u64 0, .bool false]) ∧ w = w' := by
  obtain ⟨v, hv⟩ := h.tab
  have := getN_same w0.heap.size g v T k w hv (by omega)
  rw [hn] at this
  exact this.mono fun e w' ⟨h1, h2⟩ => ⟨h1, h2⟩
theorem So.get_some (h : So w0 bt bl g A m c T w) (k u : Int) (hl : T.length ≤ 1000000) (hn : gtN T k = some u) :
    Calls Try.prog 23 #[.pointer (some ⟨g, 0, none⟩), .int .i64 k] w fun e w' => e = .returned (.tuple #[.int .u64 u, .bool true]) ∧ w = w' := by
  obtain ⟨v, hv⟩ := h.tab
  have := getN_same w0.heap.size g v T k w hv (by omega)
  rw [hn] at this
  exact this.mono fun e w' ⟨h1, h2⟩ => ⟨h1, h2⟩

set_option maxRecDepth 100000 in
/-- All, gone through by the closure. -/
theorem So.walk {l d : List Int} {ask : Int} {wr z : World} {bn bla bne bfo bo ba xt : Nat} (hx : So w0 bt bl g A l.length c T wr) (hf : Fr [] wr z) (hD : DI l d d.length T) (h0 : SU bo bn bla bne bfo ask [] z) (hxt : Bk z xt 38 #[.pointer (some ⟨g, 0, none⟩)])
    (hb : ∀ x ∈ [bo, bn, bla, bne, bfo], wr.heap.size ≤ x) (hne : bn ≠ bla ∧ bn ≠ bne ∧ bla ≠ bne ∧ bo ≠ bfo) (ha : Bk w0 ba 3 #[.int .i64 ask]) (hR : RdI w0 A l) (hL : l.length ≤ 500) :
    Calls Try.prog 42 #[.func (.func 22) #[] #[.pointer (some ⟨bt, 0, none⟩), .pointer (some ⟨bo, 0, none⟩), .pointer (some ⟨bn, 0, none⟩), .pointer (some ⟨bla, 0, none⟩), .pointer (some ⟨bl, 0, none⟩), .pointer (some ⟨ba, 0, none⟩), .pointer (some ⟨bne, 0, none⟩), .pointer (some ⟨bfo, 0, none⟩)], .pointer (some ⟨xt, 0, none⟩)] z
      fun e w' => e = .returned (.tuple #[]) ∧ SU bo bn bla bne bfo ask T w' ∧ So w0 bt bl g A l.length c T w' := by
  obtain ⟨v, hv⟩ := hx.tab
  have hz := hx.nil hf
  have hws := hx.fr.size
  have hvz := hv.fr hf (by simp) (by simp)
  have hba := ha.lt
  have haz : Bk z ba 3 #[.int .i64 ask] := ha.fr hz.fr (by simp)
  have hlt : ∀ x ∈ skT g v, x < wr.heap.size := hv.lt
  have o1 : ∀ x ∈ skT g v, x ∉ [bo, bn, bla, bne, bfo] := fun x hx' h' => by have := hlt x hx'; have := hb x h'; omega
  have o2 : ∀ x, x < wr.heap.size → x ∉ [bo, bn, bla, bne, bfo] := fun x hx' h' => by have := hb x h'; omega
  obtain ⟨p1, p2⟩ := sk_off o1
  have hbt := hx.t.lt
  have hbl := hx.l.lt
  have hT : ∀ x ∈ [bo, bn, bla, bne, bfo], x < z.heap.size := by
    intro x hx'
    simp only [List.mem_cons, List.not_mem_nil, or_false] at hx'
    rcases hx' with rfl | rfl | rfl | rfl | rfl
    · exact h0.1.lt
    · exact h0.2.1.lt
    · exact h0.2.2.1.lt
    · exact h0.2.2.2.1.lt
    · exact h0.2.2.2.2.lt
  have hwz := hf.size
  have b1 := hb bn (by simp)
  have b2 := hb bla (by simp)
  have b3 := hb bne (by simp)
  refine (table_all1 w0.heap.size g v T (by have := hD.len; omega) z hvz xt 22 #[.pointer (some ⟨bt, 0, none⟩), .pointer (some ⟨bo, 0, none⟩), .pointer (some ⟨bn, 0, none⟩), .pointer (some ⟨bla, 0, none⟩), .pointer (some ⟨bl, 0, none⟩), .pointer (some ⟨ba, 0, none⟩), .pointer (some ⟨bne, 0, none⟩), .pointer (some ⟨bfo, 0, none⟩)] (hxt.cell 0) (enters_of Try.func22 (by kernel_rfl) rfl)
    [bo, bn, bla, bne, bfo] hT (fun _ => SU bo bn bla bne bfo ask) (fun _ _ _ => False) (fun _ _ _ o h => h.alloc o) (fun n₀ W h1 h2 h3 => h0.fr h3)
    (fun n₀ pre x W h1 h2 h3 h4 h5 => sorted1 w0.heap.size g n₀ bt bo bn bla bl ba bne bfo v T l d A c ask pre x W h5
      ⟨h4.bk hvz.B (by have := hvz.B.lt; omega) p1, h4.lst hvz.L (fun k hk => ⟨by have := (hvz.L.lt k hk).2; omega, p2 k hk⟩), hvz.b⟩
      (h4.bk hz.t (by have := hz.t.lt; omega) (o2 _ hbt)) (h4.bk hz.l (by have := hz.l.lt; omega) (o2 _ hbl)) (h4.bk haz (by omega) (o2 _ (by omega)))
      ⟨hR.1, fun h0 => by
        obtain ⟨b, o, q1, q2, q3⟩ := hR.2 h0
        have q2' : b < w0.heap.size := q2
        refine ⟨b, o, q1, Nat.lt_of_lt_of_le q2 (by have := h4.size; omega), fun i y hy => ?_⟩
        exact (World.cell?_of_block (h4.block b (by omega) (by omega) (o2 _ (by omega)))).trans ((World.cell?_of_block (hz.fr.block b q2 (by simp))).trans (q3 i y hy))⟩
      hL ⟨hne.1, hne.2.1, hne.2.2.1, by omega, by omega, by omega, hne.2.2.2⟩ h3 hD)).mono ?_
  rintro e w' ⟨rfl, hf3, n₀, hn1, hn2, hu⟩
  rcases hu with hu | ⟨_, _, h⟩
  · refine ⟨rfl, hu, ⟨v, hvz.fr hf3 p1 p2⟩, hz.fr.trans hf3 (fun x hx' => .inr (by have := hb x hx'; omega)), hz.t.fr hf3 (o2 _ hbt), hz.l.fr hf3 (o2 _ hbl)⟩
  · exact h.elim
end
end Go.Proofs.Ytdjaalkbpdmdgaa
