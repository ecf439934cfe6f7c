/-
  Bag: tables: Get.
-/
import Derived.Test.YtdjaalkbpdmdgaaGreatBg5
namespace Go.Proofs.YtdjaalkbpdmdgaaGreat
open Go.RowKit
set_option linter.unusedVariables false

/-- What Get finds. -/
def gtN (l : List PN) (k : Int) : Option Int := if pbN l k then (l[plN l k]?).map (·.2) else none
def GotN (o : Option Int) (w : World) (e : Ending) (w' : World) : Prop :=
  e = .returned (match o with
    | some p => .tuple #[vN p, .bool true]
    | none => .tuple #[(.int .u64 0), .bool false]) ∧ Fr [] w w'

def GotS (o : Option Int) (w : World) (e : Ending) (w' : World) : Prop :=
  e = .returned (match o with
    | some p => .tuple #[vN p, .bool true]
    | none => .tuple #[(.int .u64 0), .bool false]) ∧ w = w'

set_option maxHeartbeats 1600000 in
theorem getN_same (b0 g : Nat) (v : Value) (l : List PN) (k : Int) (w : World) (h : TbN b0 w g v l) (hl : l.length ≤ 1000000000) :
    Calls Tryz.prog 58 #[.pointer (some ⟨g, 0, none⟩), kN k] w (GotS (gtN l k) w) := by
  have HPL : Hid (Calls Tryz.prog 90 #[v, kN k] w fun e w' => e = .returned (.tuple #[.int .i64 (plN l k : Nat), .bool (pbN l k)]) ∧ w = w') := placeN b0 _ l k w h.L (by omega)
  obtain ⟨Q, hQ⟩ : ∃ Q, plN l k = Q := ⟨_, rfl⟩
  have c0 : w.cell? ⟨g, 0, none⟩ = some v := h.B.cell 0
  cases hb : pbN l k with
  | true =>
    have hp1 := hb
    unfold pbN at hp1
    obtain ⟨p, hp⟩ : ∃ p, l[plN l k]? = some p := by
      cases hh : l[plN l k]? with
      | none => rw [hh] at hp1; cases hp1
      | some p => exact ⟨p, rfl⟩
    have e : gtN l k = some p.2 := by unfold gtN; rw [if_pos hb, hp]; rfl
    rw [e]
    rw [hQ, hb] at HPL
    rw [hQ] at hp
    have hlt : Q < l.length := (List.getElem?_eq_some_iff.1 hp).1
    obtain ⟨n, hn⟩ : ∃ n, l.length = n := ⟨_, rfl⟩
    have hL := h.L
    rw [hn] at hL hl hlt
    obtain ⟨bb, o, cp, rfl, hbb, hbl, _, _, _, hfz, hcell⟩ := hL.form (by omega)
    obtain ⟨ck, cv⟩ := cells2_at (fun p : PN => kN p.1) (fun p => vN p.2) l Q p hp
    have ck := hcell _ _ ck
    have cv := hcell _ _ cv
    rw [← Nat.add_assoc] at cv
    have i0 : (0 : Int) ≤ (Q : Int) := by omega
    have i1 : (Q : Int) < (n : Int) := by omega
    clear h hb hL hcell hfz hp hQ hn hp1 e
    unfold GotS
    obtain ⟨pk, pv⟩ := p
    unfold kN vN at *
    simp only at *
    go_enter Tryz.func58, Tryz.ntmps58
    go_wp2_with fail
    refine (Calls.mono HPL.out ?_)
    rintro e w1 ⟨rfl, rfl⟩
    go_wp2_with fail
    go_ret2
    exact ⟨rfl, rfl⟩
  | false =>
    have e : gtN l k = none := by unfold gtN; rw [if_neg (by rw [hb]; simp)]
    rw [e]
    rw [hQ, hb] at HPL
    clear h hb hQ e hl
    unfold GotS
    unfold kN at *
    go_enter Tryz.func58, Tryz.ntmps58
    go_wp2_with fail
    refine (Calls.mono HPL.out ?_)
    rintro e w1 ⟨rfl, rfl⟩
    go_wp2_with fail
    go_ret2
    exact ⟨rfl, rfl⟩
theorem getN_any (b0 g : Nat) (v : Value) (l : List PN) (k : Int) (w : World) (h : TbN b0 w g v l) (hl : l.length ≤ 1000000000) :
    Calls Tryz.prog 58 #[.pointer (some ⟨g, 0, none⟩), kN k] w (GotN (gtN l k) w) :=
  (getN_same b0 g v l k w h hl).mono fun e w' ⟨h1, h2⟩ => ⟨h1, by subst h2; exact Fr.refl _ _⟩
end Go.Proofs.YtdjaalkbpdmdgaaGreat
