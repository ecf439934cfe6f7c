/-
  Policy: a turn in the scene of a book.
-/
import Derived.Test.YtdcppdgnekhcgaaGreatDoorPtB
import Derived.Test.YtdcppdgnekhcgaaGreatDoorPolAsk
import Derived.Test.YtdcppdgnekhcgaaGreatDoorSame12
import Derived.Test.YtdcppdgnekhcgaaGreatDoorBoS
namespace Go.Proofs.YtdcppdgnekhcgaaGreatDoor
open Go.RowKit Pol
set_option maxRecDepth 100000
set_option linter.unusedVariables false

theorem ask_range {w : World} {a : Nat} {c : Nat → Int} {base kind words : Int} {sv : Value} (h : Bk w a 26 (askA c base kind words sv)) : w.rangeAt a 0 (cfgA c).toList := by
  intro i v hi
  have hlt : i < 14 := by
    have := (List.getElem?_eq_some_iff.1 hi).1
    have h14 : (cfgA c).toList.length = 14 := rfl
    omega
  rw [Nat.zero_add, h.cell i, ← hi]
  match i, hlt with
  | 0, _ | 1, _ | 2, _ | 3, _ | 4, _ | 5, _ | 6, _ | 7, _ | 8, _ | 9, _ | 10, _ | 11, _ | 12, _ | 13, _ => rfl

theorem ask_cells {w : World} {a : Nat} {c : Nat → Int} {base kind words : Int} {sv : Value} (h : Bk w a 26 (askA c base kind words sv)) :
    w.cell? ⟨a, 14, none⟩ = some (.int .i64 base) ∧ w.cell? ⟨a, 15, none⟩ = some (.int .i64 kind) ∧ w.cell? ⟨a, 16, none⟩ = some (.int .i64 words) ∧ w.cell? ⟨a, 17, none⟩ = some sv :=
  ⟨h.cell 14, h.cell 15, h.cell 16, h.cell 17⟩

theorem listed_rd {w : World} {base : Nat} {l : List Int} {v : Value} (h : w.ownsRow base 3 1 v l.length (ints l)) : ∃ A cap, v = .slice A l.length cap ∧ RdI w A l := by
  obtain ⟨A, cap, rfl⟩ := own_form h
  exact ⟨A, cap, rfl, (RdI.own h).2⟩


def thOb (b0 : Nat) (F : List Nat) (P : World → Prop) (o : Ob F P) : Th b0 :=
  ⟨F, fun w => P w ∧ ∀ x ∈ F, b0 ≤ x, fun h hf hS => ⟨o.fr h.1 hf hS, h.2⟩, fun h x hx => ⟨h.2 x hx, o.lt h.1 x hx⟩⟩
def thPT (b0 g : Nat) (c : Nat → Int) (base limit words : Int) (s : St) (l : List Int) (cyc : Value) : Th b0 := thOb b0 _ _ (PT.ob g c base limit words s l cyc)
def thRT (b0 g : Nat) (c : Nat → Int) (kind words first most : Int) (s : St) (l : List Int) (cl ov : Bool) (rv : Value) : Th b0 := thOb b0 _ _ (RT.ob g c kind words first most s l cl ov rv)

/-- A book, the argument's box, the program's turn, the document's. -/
structure Tel (w0 : World) (gb a g h : Nat) (ask : Array Value) (c : Nat → Int) (base kind words : Int) (K : Nat) (S : BS) (XW : List (Value × List Int)) (s : St) (l : List Int) (cyc : Value) (s2 : St) (l2 : List Int) (cl ov : Bool) (rv : Value) (Us : List (Th w0.heap.size)) (wr : World) : Prop where
  eg : S.g = gb
  ed : S.deep = 0
  bl : BLk S [] XW [] K 16
  sg : Sg w0 (bkT w0.heap.size S ++ (thBox w0.heap.size a 26 ask :: thPT w0.heap.size g c base (limitOf c base) words s l cyc :: thRT w0.heap.size h c kind words base (limitOf c base) s2 l2 cl ov rv :: Us)) wr

theorem own_le {v u : Value} {g n b0 : Nat} (h : v.ownBlock = u.ownBlock ∨ ∃ b, v.ownBlock = some b ∧ n ≤ b) (hb : b0 ≤ n) (hu : ∀ x ∈ g :: u.ownBlock.toList, b0 ≤ x) : ∀ x ∈ g :: v.ownBlock.toList, b0 ≤ x := by
  intro x hx
  rcases own_step (n := n) h x hx with e | e
  · exact hu x e
  · omega

section
variable {w0 : World} {gb a g h : Nat} {ask : Array Value} {c : Nat → Int} {base kind words : Int} {K : Nat} {S : BS} {XW : List (Value × List Int)} {s s' s2 : St} {l l' l2 : List Int} {cyc cyc' : Value} {cl ov cl' ov' : Bool} {rv rv' : Value} {Us : List (Th w0.heap.size)} {wr w2 : World}
theorem Tel.quiet (T : Tel w0 gb a g h ask c base kind words K S XW s l cyc s2 l2 cl ov rv Us wr) (hf : Fr [] wr w2) : Tel w0 gb a g h ask c base kind words K S XW s l cyc s2 l2 cl ov rv Us w2 :=
  ⟨T.eg, T.ed, T.bl, T.sg.nil hf⟩
theorem Tel.box (T : Tel w0 gb a g h ask c base kind words K S XW s l cyc s2 l2 cl ov rv Us wr) : Bk wr a 26 ask := (T.sg.ok 11 (thBox w0.heap.size a 26 ask) rfl).1
theorem Tel.p (T : Tel w0 gb a g h ask c base kind words K S XW s l cyc s2 l2 cl ov rv Us wr) : PT wr g c base (limitOf c base) words s l cyc :=
  (T.sg.ok 12 (thPT w0.heap.size g c base (limitOf c base) words s l cyc) rfl).1
theorem Tel.r (T : Tel w0 gb a g h ask c base kind words K S XW s l cyc s2 l2 cl ov rv Us wr) : RT wr h c kind words base (limitOf c base) s2 l2 cl ov rv :=
  (T.sg.ok 13 (thRT w0.heap.size h c kind words base (limitOf c base) s2 l2 cl ov rv) rfl).1
/-- A thing more. -/
theorem Tel.push (T : Tel w0 gb a g h ask c base kind words K S XW s l cyc s2 l2 cl ov rv Us wr) {t : Th w0.heap.size} (hf : Fr [] wr w2) (hP : t.P w2) (hn : ∀ x ∈ t.F, wr.heap.size ≤ x) : Tel w0 gb a g h ask c base kind words K S XW s l cyc s2 l2 cl ov rv (Us ++ [t]) w2 :=
  ⟨T.eg, T.ed, T.bl, by have := T.sg.push hf hP hn; rw [List.append_assoc] at this; exact this⟩
theorem Tel.drop {u : Th w0.heap.size} (T : Tel w0 gb a g h ask c base kind words K S XW s l cyc s2 l2 cl ov rv (Us ++ [u]) wr) : Tel w0 gb a g h ask c base kind words K S XW s l cyc s2 l2 cl ov rv Us wr :=
  ⟨T.eg, T.ed, T.bl, Sg.left (Ts := bkT w0.heap.size S ++ (thBox w0.heap.size a 26 ask :: thPT w0.heap.size g c base (limitOf c base) words s l cyc :: thRT w0.heap.size h c kind words base (limitOf c base) s2 l2 cl ov rv :: Us)) (Us := [u]) (by rw [List.append_assoc]; exact T.sg)⟩
/-- The program's turn has gone on. -/
theorem Tel.stepP (T : Tel w0 gb a g h ask c base kind words K S XW s l cyc s2 l2 cl ov rv Us wr)
    (hp : PT w2 g c base (limitOf c base) words s' l' cyc') (ho : cyc'.ownBlock = cyc.ownBlock ∨ ∃ b, cyc'.ownBlock = some b ∧ wr.heap.size ≤ b) (hf : Fr (g :: cyc.ownBlock.toList) wr w2) :
    Tel w0 gb a g h ask c base kind words K S XW s' l' cyc' s2 l2 cl ov rv Us w2 := by
  have h1 := T.sg.ok 12 (thPT w0.heap.size g c base (limitOf c base) words s l cyc) rfl
  exact ⟨T.eg, T.ed, T.bl, T.sg.set (i := 12) (t' := thPT w0.heap.size g c base (limitOf c base) words s' l' cyc') rfl hf ⟨hp, own_le ho T.sg.fr.size h1.2⟩ (own_step ho)⟩
/-- The document's turn has gone on. -/
theorem Tel.stepR (T : Tel w0 gb a g h ask c base kind words K S XW s l cyc s2 l2 cl ov rv Us wr)
    (hp : RT w2 h c kind words base (limitOf c base) s' l' cl' ov' rv') (ho : rv'.ownBlock = rv.ownBlock ∨ ∃ b, rv'.ownBlock = some b ∧ wr.heap.size ≤ b) (hf : Fr (h :: rv.ownBlock.toList) wr w2) :
    Tel w0 gb a g h ask c base kind words K S XW s l cyc s' l' cl' ov' rv' Us w2 := by
  have h1 := T.sg.ok 13 (thRT w0.heap.size h c kind words base (limitOf c base) s2 l2 cl ov rv) rfl
  exact ⟨T.eg, T.ed, T.bl, T.sg.set (i := 13) (t' := thRT w0.heap.size h c kind words base (limitOf c base) s' l' cl' ov' rv') rfl hf ⟨hp, own_le ho T.sg.fr.size h1.2⟩ (own_step ho)⟩
/-- What Cycles hands out is a thing of its own. -/
theorem Tel.cycles (T : Tel w0 gb a g h ask c base kind words K S XW s l cyc s2 l2 cl ov rv Us wr) :
    Calls Tryz.prog 28 #[.pointer (some ⟨g, 0, none⟩)] wr fun e w' => ∃ A q, e = .returned (.slice A l.length q) ∧ RdI w' A l ∧
      Tel w0 gb a g h ask c base kind words K S XW s l cyc s2 l2 cl ov rv (Us ++ [thLst w0.heap.size 3 (.slice A l.length q) (bV l)]) w' := by
  refine (cycles_any g c base (limitOf c base) words s l cyc wr T.p).mono ?_
  rintro e w' ⟨v, rfl, hown, hf⟩
  obtain ⟨A, q, rfl, hr⟩ := listed_rd hown
  refine ⟨A, q, rfl, hr, T.push hf (t := thLst w0.heap.size 3 (.slice A l.length q) (bV l)) ?_ ?_⟩
  · show Lst w' w0.heap.size 3 1 _ (bV l).length _
    rw [bV_len]
    exact (Lst.of_own hown).mono T.sg.fr.size
  · intro x hx
    exact (hown.lt x (by simpa [thLst] using hx)).1
theorem Tel.ints {A : Option Addr} {q j : Nat} (z : Int) (T : Tel w0 gb a g h ask c base kind words K S XW s l cyc s2 l2 cl ov rv (Us ++ [thLst w0.heap.size 3 (.slice A l.length q) (bV l)]) wr) (hK : K ≤ 1000000000000) :
    Calls Tryz.prog 17 #[.pointer (some ⟨gb, 0, none⟩), .slice A l.length q, .int .i64 z] wr fun e w' => e = .returned (.tuple #[]) ∧ ∃ S' XW', Tel w0 gb a g h ask c base kind words (K + 2) S' XW' s l cyc s2 l2 cl ov rv Us w' := by
  have hg := T.eg
  subst hg
  have hj : (thBox w0.heap.size a 26 ask :: thPT w0.heap.size g c base (limitOf c base) words s l cyc :: thRT w0.heap.size h c kind words base (limitOf c base) s2 l2 cl ov rv :: (Us ++ [thLst w0.heap.size 3 (.slice A l.length q) (bV l)]))[3 + Us.length]? = some (thLst w0.heap.size 3 (.slice A l.length q) (bV l)) := by
    rw [show 3 + Us.length = Us.length + 3 from by omega]
    simp
  refine (Ints_any z T.sg T.bl T.ed rfl hj (by have := T.p.ok.len3; omega) hK (by omega)).mono ?_
  rintro e w' ⟨rfl, S', XW', e1, e2, e3, e4⟩
  have hset : (thBox w0.heap.size a 26 ask :: thPT w0.heap.size g c base (limitOf c base) words s l cyc :: thRT w0.heap.size h c kind words base (limitOf c base) s2 l2 cl ov rv :: (Us ++ [thLst w0.heap.size 3 (.slice A l.length q) (bV l)])).set (3 + Us.length) (thNil w0.heap.size) = thBox w0.heap.size a 26 ask :: thPT w0.heap.size g c base (limitOf c base) words s l cyc :: thRT w0.heap.size h c kind words base (limitOf c base) s2 l2 cl ov rv :: (Us ++ [thNil w0.heap.size]) := by
    rw [show 3 + Us.length = Us.length + 3 from by omega]
    simp
  rw [hset] at e4
  have T2 : Tel w0 S.g a g h ask c base kind words (K + 2) S' XW' s l cyc s2 l2 cl ov rv (Us ++ [thNil w0.heap.size]) w' := ⟨e1, e2, e3, e4⟩
  exact ⟨rfl, S', XW', T2.drop⟩
theorem Tel.hold (T : Tel w0 gb a g h ask c base kind words K S XW s l cyc s2 l2 cl ov rv Us wr) :
    Calls Tryz.prog 7 #[.pointer (some ⟨gb, 0, none⟩)] wr fun e w' => e = .returned (.bool true) ∧ Fr [] wr w' := by
  have hg := T.eg
  subst hg
  exact Hold_any w0.heap.size S wr (BLk.hold T.sg T.bl)
end
end Go.Proofs.YtdcppdgnekhcgaaGreatDoor
