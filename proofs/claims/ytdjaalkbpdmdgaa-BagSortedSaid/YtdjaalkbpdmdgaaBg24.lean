/-
  Bag: containers of which only the size is told (Loose): what BagFrozen's closures do to them.
-/
import Derived.Test.YtdjaalkbpdmdgaaBg23
namespace Go.Proofs.Ytdjaalkbpdmdgaa
open Go.RowKit Go.Shelf
set_option linter.unusedVariables false

theorem Kb.weak {n₀ : Nat} {T T' : List Nat} {a b : World} (h : Kb n₀ T a b) (hT : ∀ x ∈ T, x ∈ T') : Kb n₀ T' a b := ⟨h.os, h.tape, h.output, h.size, fun k h1 h2 h3 => h.block k h1 h2 (fun hx => h3 (hT k hx))⟩
/-- A stack or queue of at most K things, in blocks of T or laid from n₀ on. -/
def Loose (t : TypeId) (b0 n₀ : Nat) (T : List Nat) (g : Nat) (K : Nat) (w : World) : Prop :=
  ∃ v l, Sk t b0 w g 0 v l ∧ l.length ≤ K ∧ ∀ x ∈ skT g v, x ∈ T ∨ n₀ ≤ x
def LooseN (b0 n₀ : Nat) (T : List Nat) (g : Nat) (K : Nat) (w : World) : Prop :=
  ∃ v l, TbN b0 w g v l ∧ l.length ≤ K ∧ ∀ x ∈ skT g v, x ∈ T ∨ n₀ ≤ x
theorem Loose.more {t : TypeId} {b0 n₀ : Nat} {T : List Nat} {g K K' : Nat} {w : World} (h : Loose t b0 n₀ T g K w) (hK : K ≤ K') : Loose t b0 n₀ T g K' w := by
  obtain ⟨v, l, h1, h2, h3⟩ := h
  exact ⟨v, l, h1, Nat.le_trans h2 hK, h3⟩
theorem LooseN.more {b0 n₀ : Nat} {T : List Nat} {g K K' : Nat} {w : World} (h : LooseN b0 n₀ T g K w) (hK : K ≤ K') : LooseN b0 n₀ T g K' w := by
  obtain ⟨v, l, h1, h2, h3⟩ := h
  exact ⟨v, l, h1, Nat.le_trans h2 hK, h3⟩
/-- Kept by what turns other blocks alone. -/
theorem Loose.fr {t : TypeId} {b0 n₀ : Nat} {T S : List Nat} {g K : Nat} {w w' : World} (h : Loose t b0 n₀ T g K w) (hf : Fr S w w') (hS : ∀ x ∈ S, x ∉ T ∧ x < n₀) : Loose t b0 n₀ T g K w' := by
  obtain ⟨v, l, h1, h2, h3⟩ := h
  have off : ∀ x ∈ skT g v, x ∉ S := fun x hx hs => by
    obtain ⟨a, b⟩ := hS x hs
    rcases h3 x hx with h | h
    · exact a h
    · omega
  obtain ⟨o1, o2⟩ := sk_off off
  exact ⟨v, l, h1.fr hf o1 o2, h2, h3⟩
theorem LooseN.fr {b0 n₀ : Nat} {T S : List Nat} {g K : Nat} {w w' : World} (h : LooseN b0 n₀ T g K w) (hf : Fr S w w') (hS : ∀ x ∈ S, x ∉ T ∧ x < n₀) : LooseN b0 n₀ T g K w' := by
  obtain ⟨v, l, h1, h2, h3⟩ := h
  have off : ∀ x ∈ skT g v, x ∉ S := fun x hx hs => by
    obtain ⟨a, b⟩ := hS x hs
    rcases h3 x hx with h | h
    · exact a h
    · omega
  obtain ⟨o1, o2⟩ := sk_off off
  exact ⟨v, l, h1.fr hf o1 o2, h2, h3⟩
def Did (P : World → Prop) (n₀ : Nat) (T : List Nat) (w : World) (e : Ending) (w' : World) : Prop := (∃ r, e = .returned r) ∧ P w' ∧ Kb n₀ T w w'
theorem Loose.of_to {t : TypeId} {b0 n₀ : Nat} {T : List Nat} {g K : Nat} {v : Value} {l' : List Int} {r : Value} {w : World} {e : Ending} {w' : World} (h : SkTo t b0 g 0 v l' r w e w') (hl : l'.length ≤ K) (h3 : ∀ x ∈ skT g v, x ∈ T ∨ n₀ ≤ x) (hn : n₀ ≤ w.heap.size) : Did (Loose t b0 n₀ T g K) n₀ T w e w' := by
  obtain ⟨he, v', k1, k2, k3⟩ := h
  exact ⟨⟨_, he⟩, ⟨v', l', k1, hl, fun x hx => by
    rcases k3 x hx with h | h
    · exact h3 x h
    · exact .inr (by omega)⟩, k2.kb h3⟩
theorem LooseN.of_to {b0 n₀ : Nat} {T : List Nat} {g K : Nat} {v : Value} {l' : List PN} {r : Value} {w : World} {e : Ending} {w' : World} (h : TbNTo b0 g v l' r w e w') (hl : l'.length ≤ K) (h3 : ∀ x ∈ skT g v, x ∈ T ∨ n₀ ≤ x) (hn : n₀ ≤ w.heap.size) : Did (LooseN b0 n₀ T g K) n₀ T w e w' := by
  obtain ⟨he, v', k1, k2, k3⟩ := h
  exact ⟨⟨_, he⟩, ⟨v', l', k1, hl, fun x hx => by
    rcases k3 x hx with h | h
    · exact h3 x h
    · exact .inr (by omega)⟩, k2.kb h3⟩
theorem tsetN_len (l : List PN) (k v : Int) : (tsetN l k v).length ≤ l.length + 1 := by
  unfold tsetN
  split
  · split
    · simp
    · omega
  · simp only [List.length_append, List.length_take, List.length_drop, List.length_cons, List.length_nil]
    omega
theorem tdropN_len (l : List PN) (k : Int) : (tdropN l k).length ≤ l.length := by
  unfold tdropN
  split
  · simp only [List.length_append, List.length_take, List.length_drop]
    omega
  · omega
theorem looseN_set (b0 n₀ : Nat) (T : List Nat) (g K : Nat) (k x : Int) (w : World) (h : LooseN b0 n₀ T g K w) (hK : K ≤ 1000000) (hb : b0 ≤ w.heap.size) (hn : n₀ ≤ w.heap.size) :
    Calls Try.prog 19 #[.pointer (some ⟨g, 0, none⟩), .int .i64 k, .int .u64 x] w (Did (LooseN b0 n₀ T g (K + 1)) n₀ T w) := by
  obtain ⟨v, l, h1, h2, h3⟩ := h
  exact (setN_any b0 g v l k x w h1 (by omega) hb).mono fun e w' h => LooseN.of_to h (by have := tsetN_len l k x; omega) h3 hn
theorem looseN_drop (b0 n₀ : Nat) (T : List Nat) (g K : Nat) (k : Int) (w : World) (h : LooseN b0 n₀ T g K w) (hK : K ≤ 1000000) (hn : n₀ ≤ w.heap.size) :
    Calls Try.prog 20 #[.pointer (some ⟨g, 0, none⟩), .int .i64 k] w (Did (LooseN b0 n₀ T g K) n₀ T w) := by
  obtain ⟨v, l, h1, h2, h3⟩ := h
  exact (dropN_any b0 g v l k w h1 (by omega)).mono fun e w' h => LooseN.of_to h (by have := tdropN_len l k; omega) h3 hn

theorem loose_stack_add (b0 n₀ : Nat) (T : List Nat) (g K : Nat) (x : Int) (w : World) (h : Loose 64 b0 n₀ T g K w) (hK : K ≤ 1000000) (hb : b0 ≤ w.heap.size) (hn : n₀ ≤ w.heap.size) :
    Calls Try.prog 11 #[.pointer (some ⟨g, 0, none⟩), .int .i64 x] w (Did (Loose 64 b0 n₀ T g (K + 1)) n₀ T w) := by
  obtain ⟨v, l, h1, h2, h3⟩ := h
  exact (stack_add b0 g 0 v l x w h1 (by unfold fullB; simp) (by omega) hb (by decide)).mono fun e w' h => Loose.of_to h (by simp; omega) h3 hn
theorem loose_stack_take (b0 n₀ : Nat) (T : List Nat) (g K : Nat) (w : World) (h : Loose 64 b0 n₀ T g K w) (hn : n₀ ≤ w.heap.size) :
    Calls Try.prog 14 #[.pointer (some ⟨g, 0, none⟩)] w (Did (Loose 64 b0 n₀ T g K) n₀ T w) := by
  obtain ⟨v, l, h1, h2, h3⟩ := h
  rcases Nat.eq_zero_or_pos l.length with h0 | h0
  · obtain rfl : l = [] := List.eq_nil_of_length_eq_zero h0
    exact (stack_none b0 g 0 v w h1).mono fun e w' ⟨he, hw⟩ => by subst hw; exact ⟨⟨_, he⟩, ⟨v, [], h1, h2, h3⟩, Kb.refl _ _ _⟩
  · obtain ⟨q, hq⟩ : ∃ q, l.length = q + 1 := ⟨l.length - 1, by omega⟩
    obtain ⟨x, hx⟩ : ∃ x, l[q]? = some x := ⟨_, List.getElem?_eq_getElem (by omega)⟩
    exact (stack_take b0 g 0 v l q x w h1 hq hx (by decide)).mono fun e w' h => Loose.of_to h (by simp; omega) h3 hn

theorem loose_queue_add (b0 n₀ : Nat) (T : List Nat) (g K : Nat) (x : Int) (w : World) (h : Loose 65 b0 n₀ T g K w) (hK : K ≤ 1000000) (hb : b0 ≤ w.heap.size) (hn : n₀ ≤ w.heap.size) :
    Calls Try.prog 12 #[.pointer (some ⟨g, 0, none⟩), .int .i64 x] w (Did (Loose 65 b0 n₀ T g (K + 1)) n₀ T w) := by
  obtain ⟨v, l, h1, h2, h3⟩ := h
  exact (queue_add b0 g 0 v l x w h1 (by unfold fullB; simp) (by omega) hb (by decide)).mono fun e w' h => Loose.of_to h (by simp; omega) h3 hn
theorem loose_queue_take (b0 n₀ : Nat) (T : List Nat) (g K : Nat) (w : World) (h : Loose 65 b0 n₀ T g K w) (hn : n₀ ≤ w.heap.size) :
    Calls Try.prog 15 #[.pointer (some ⟨g, 0, none⟩)] w (Did (Loose 65 b0 n₀ T g K) n₀ T w) := by
  obtain ⟨v, l, h1, h2, h3⟩ := h
  rcases Nat.eq_zero_or_pos l.length with h0 | h0
  · obtain rfl : l = [] := List.eq_nil_of_length_eq_zero h0
    exact (queue_none b0 g 0 v w h1).mono fun e w' ⟨he, hw⟩ => by subst hw; exact ⟨⟨_, he⟩, ⟨v, [], h1, h2, h3⟩, Kb.refl _ _ _⟩
  · obtain ⟨q, hq⟩ : ∃ q, l.length = q + 1 := ⟨l.length - 1, by omega⟩
    obtain ⟨x, hx⟩ : ∃ x, l[0]? = some x := ⟨_, List.getElem?_eq_getElem (by omega)⟩
    exact (queue_take b0 g 0 v l q x w h1 hq hx (l.drop 1) rfl (by decide)).mono fun e w' h => Loose.of_to h (by simp; omega) h3 hn
end Go.Proofs.Ytdjaalkbpdmdgaa
