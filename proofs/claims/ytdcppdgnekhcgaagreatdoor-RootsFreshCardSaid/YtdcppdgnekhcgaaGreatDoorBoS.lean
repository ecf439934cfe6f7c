/-
  The book: an empty one, and what Hold asks.
-/
import Derived.Test.YtdcppdgnekhcgaaGreatDoorBo9
namespace Go.Proofs.YtdcppdgnekhcgaaGreatDoor
open Go.RowKit
set_option linter.unusedVariables false
set_option maxRecDepth 100000

/-- A book with nothing in it. -/
def S0 (g : Nat) : BS := ⟨g, 0, 0, 0, .slice none 0 0, .slice none 0 0, .slice none 0 0, .slice none 0 0, .slice none 0 0, .slice none 0 0, .slice none 0 0, .slice none 0 0, [], [], [], [], [], [], [], [], [], [], []⟩
theorem BLk.start (g L : Nat) : BLk (S0 g) [] [] [] 0 L := ⟨rfl, rfl, rfl, rfl, rfl, rfl, rfl, rfl, fun i p q hp _ => by simp [S0] at hp, fun i x q hx _ => by simp at hx, by simp [S0], fun x hx => by simp [S0] at hx⟩
theorem Sg.book0 {w0 w : World} {gb : Nat} (hB : Bk w gb 43 (bookA (S0 gb))) (hgb : w0.heap.size ≤ gb) (hf : Fr [] w0 w) : Sg w0 (bkT w0.heap.size (S0 gb)) w := by
  have key : ∀ (i : Nat) (s : Th w0.heap.size), (bkT w0.heap.size (S0 gb))[i]? = some s → s.P w ∧ (s.F = [] ∨ i = 0) := fun i s hi => by
    have hlt : i < 11 := by
      have := (List.getElem?_eq_some_iff.1 hi).1
      simpa [bkT_len] using this
    have h12 : i = 0 ∨ i = 1 ∨ i = 2 ∨ i = 3 ∨ i = 4 ∨ i = 5 ∨ i = 6 ∨ i = 7 ∨ i = 8 ∨ i = 9 ∨ i = 10 := by omega
    rcases h12 with rfl | rfl | rfl | rfl | rfl | rfl | rfl | rfl | rfl | rfl | rfl
    · have hi := Option.some.inj hi; subst hi; exact ⟨⟨hB, hgb⟩, .inr rfl⟩
    · have hi := Option.some.inj hi; subst hi; exact ⟨Lst.nil _ _ _ _, .inl rfl⟩
    · have hi := Option.some.inj hi; subst hi; exact ⟨Lst.nil _ _ _ _, .inl rfl⟩
    · have hi := Option.some.inj hi; subst hi; exact ⟨Lst.nil _ _ _ _, .inl rfl⟩
    · have hi := Option.some.inj hi; subst hi; exact ⟨Lst.nil _ _ _ _, .inl rfl⟩
    · have hi := Option.some.inj hi; subst hi; exact ⟨Lst.nil _ _ _ _, .inl rfl⟩
    · have hi := Option.some.inj hi; subst hi; exact ⟨Lst.nil _ _ _ _, .inl rfl⟩
    · have hi := Option.some.inj hi; subst hi; exact ⟨Lst.nil _ _ _ _, .inl rfl⟩
    · have hi := Option.some.inj hi; subst hi; exact ⟨Lst.nil _ _ _ _, .inl rfl⟩
    · have hi := Option.some.inj hi; subst hi; exact ⟨⟨fun q hq => by simp [S0] at hq, fun x hx => by simp [S0] at hx⟩, .inl rfl⟩
    · have hi := Option.some.inj hi; subst hi; exact ⟨⟨fun q hq => by simp [S0] at hq, List.Pairwise.nil⟩, .inl rfl⟩
  refine ⟨fun i s hi => (key i s hi).1, fun i j s u hij hs hu x hx hx' => ?_, hf⟩
  rcases (key i s hs).2 with e | e
  · rw [e] at hx; simp at hx
  · rcases (key j u hu).2 with f | f
    · rw [f] at hx'; simp at hx'
    · omega
theorem book_built : Tryz.prog.built 43 [] = some (bookA (S0 0)) := by kernel_rfl
/-- What Hold asks. -/
theorem BLk.hold {w0 w : World} {Us : List (Th w0.heap.size)} {S : BS} {XW : List (Value × List Int)} {K L : Nat} (h : Sg w0 (bkT w0.heap.size S ++ Us) w) (hl : BLk S [] XW [] K L) : BHold w0.heap.size S w := by
  have hro := (h.ok 9 (thRO w0.heap.size S.Q S.FQ) rfl).1
  refine ⟨h.book, h.lst (i := 1) rfl, h.lst (i := 2) rfl, h.lst (i := 3) rfl, h.lst (i := 4) rfl, hl.t.symm, by rw [hl.W, List.length_map, hl.n], fun i p q hp hq => ?_, fun i p q hp hq => ?_⟩
  · obtain ⟨c, h1, h2⟩ := hl.o i p q hp hq
    rcases h2 with h2 | h2
    · exact ⟨c, (hro _ h2).1, (hro _ h1).1⟩
    · simp at h2
  · rw [hl.W, List.getElem?_map] at hp
    cases hx : XW[i]? with
    | none => rw [hx] at hp; cases hp
    | some x =>
      rw [hx] at hp
      have hp : x.1 = p := Option.some.inj hp
      have hq2 := hl.w i x q hx hq
      have hxl := (h.ok 10 (thWR w0.heap.size S.X) rfl).1 x (by rw [hl.x]; simp [List.mem_of_getElem? hx])
      rw [← hp]
      exact ⟨x.2, hxl.rdv, (hro _ hq2).1⟩
end Go.Proofs.YtdcppdgnekhcgaaGreatDoor
