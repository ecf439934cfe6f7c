/-
  Bag: tables: Near.
-/
import Derived.Test.YtdjaalkbpdmdgaaGreatBg4
namespace Go.Proofs.YtdjaalkbpdmdgaaGreat
open Go.RowKit
set_option linter.unusedVariables false

/-- What Near finds. -/
def nrN (l : List PN) (k : Int) : Option PN := if pbN l k then l[plN l k]? else if plN l k = 0 then none else l[plN l k - 1]?
def NearN (o : Option PN) (w : World) (e : Ending) (w' : World) : Prop :=
  e = .returned (match o with
    | some p => .tuple #[kN p.1, vN p.2, .bool true]
    | none => .tuple #[(.int .i64 0), (.int .u64 0), .bool false]) ∧ Fr [] w w'

set_option maxHeartbeats 1600000 in
theorem nearN_hit (b0 g : Nat) (v : Value) (l : List PN) (k : Int) (Q i : Nat) (B : Bool) (p : PN) (w : World) (h : TbN b0 w g v l) (hl : l.length ≤ 1000000000) (hQ : plN l k = Q) (hb : pbN l k = B) (hp : l[i]? = some p) (hi : if B then i = Q else Q = i + 1) :
    Calls Tryz.prog 62 #[.pointer (some ⟨g, 0, none⟩), kN k] w (NearN (some p) w) := by
  have hlt : i < l.length := (List.getElem?_eq_some_iff.1 hp).1
  obtain ⟨n, hn⟩ : ∃ n, l.length = n := ⟨_, rfl⟩
  have hL := h.L
  rw [hn] at hL hl hlt
  obtain ⟨bb, o, cp, rfl, hbb, hbl, _, _, _, hfz, hcell⟩ := hL.form (by omega)
  have HPL : Hid (Calls Tryz.prog 90 #[.slice (some ⟨bb, o, none⟩) n cp, kN k] w fun e w' => e = .returned (.tuple #[.int .i64 (Q : Nat), .bool B]) ∧ w = w') := by
    have := placeN b0 _ l k w h.L (by omega)
    rw [hQ, hb] at this
    exact this
  have c0 : w.cell? ⟨g, 0, none⟩ = some (.slice (some ⟨bb, o, none⟩) n cp) := h.B.cell 0
  obtain ⟨ck, cv⟩ := cells2_at (fun p : PN => kN p.1) (fun p => vN p.2) l i p hp
  have ck := hcell _ _ ck
  have cv := hcell _ _ cv
  rw [← Nat.add_assoc] at cv
  have i0 : (0 : Int) ≤ (i : Int) := by omega
  have i1 : (i : Int) < (n : Int) := by omega
  have hneg : decide ((i : Int) < 0) = false := decide_eq_false (by omega)
  clear h hb hL hcell hfz hp hQ hn
  unfold NearN
  obtain ⟨pk, pv⟩ := p
  unfold kN vN at *
  simp only at *
  cases B with
  | true =>
    have : i = Q := by simpa using hi
    subst this
    clear hi
    go_enter Tryz.func62, Tryz.ntmps62
    go_wp2_with fail
    refine (Calls.mono HPL.out ?_)
    rintro e w1 ⟨rfl, rfl⟩
    go_upto_region 7 with fail
    go_quiet (fail)
    go_wp2_with fail
    go_ret3
    exact ⟨rfl, (Fr.refl _ _).drewN _⟩
  | false =>
    have : Q = i + 1 := by simpa using hi
    subst this
    have i2 : IntKind.i64.wrap (((i + 1 : Nat) : Int) - 1) = (i : Int) := by rw [show ((i + 1 : Nat) : Int) - 1 = (i : Int) by omega]; exact IntWalk.i64_in _ (by omega)
    clear hi
    go_enter Tryz.func62, Tryz.ntmps62
    go_wp2_with fail
    refine (Calls.mono HPL.out ?_)
    rintro e w1 ⟨rfl, rfl⟩
    go_upto_region 7 with fail
    go_quiet (fail)
    go_wp2_with fail
    go_ret3
    exact ⟨rfl, (Fr.refl _ _).drewN _⟩

theorem nearN_none (b0 g : Nat) (v : Value) (l : List PN) (k : Int) (w : World) (h : TbN b0 w g v l) (hl : l.length ≤ 1000000000) (hQ : plN l k = 0) (hb : pbN l k = false) :
    Calls Tryz.prog 62 #[.pointer (some ⟨g, 0, none⟩), kN k] w (NearN none w) := by
  obtain ⟨A, cp, rfl, _, _⟩ := h.L.look
  obtain ⟨n, hn⟩ : ∃ n, l.length = n := ⟨_, rfl⟩
  have HPL : Hid (Calls Tryz.prog 90 #[.slice A n cp, kN k] w fun e w' => e = .returned (.tuple #[.int .i64 0, .bool false]) ∧ w = w') := by
    have := placeN b0 _ l k w h.L (by omega)
    rw [hQ, hb, hn] at this
    exact this
  have c0 : w.cell? ⟨g, 0, none⟩ = some (.slice A n cp) := by rw [← hn]; exact h.B.cell 0
  obtain ⟨z, hz⟩ : ∃ z, z = w.alloc (.cells #[(.int .i64 0), (.int .u64 0)] 138) := ⟨_, rfl⟩
  have hfz : Fr [] w z := by rw [hz]; exact (Fr.refl _ _).alloc _
  have hbz : Bk z w.heap.size 138 #[(.int .i64 0), (.int .u64 0)] := by rw [hz]; exact Bk.new _ _ _
  have e0 := hbz.cell 0
  have e1 := hbz.cell 1
  have HZ := Lib.hid hz
  have HFZ := Lib.hid hfz
  clear h hb hQ hn hz hfz hbz hl
  unfold NearN
  unfold kN at *
  go_enter Tryz.func62, Tryz.ntmps62
  go_wp2_with fail
  refine (Calls.mono HPL.out ?_)
  rintro e w1 ⟨rfl, rfl⟩
  go_upto_region 6 with fail
  rw [← HZ.out]
  go_quiet (fail)
  go_wp2_with fail
  go_ret3
  exact ⟨rfl, HFZ.out.drewN _⟩

theorem nearN_any (b0 g : Nat) (v : Value) (l : List PN) (k : Int) (w : World) (h : TbN b0 w g v l) (hl : l.length ≤ 1000000000) :
    Calls Tryz.prog 62 #[.pointer (some ⟨g, 0, none⟩), kN k] w (NearN (nrN l k) w) := by
  have hle := plN_le l k
  cases hb : pbN l k with
  | true =>
    have hp1 := hb
    unfold pbN at hp1
    obtain ⟨p, hp⟩ : ∃ p, l[plN l k]? = some p := by
      cases hh : l[plN l k]? with
      | none => rw [hh] at hp1; cases hp1
      | some p => exact ⟨p, rfl⟩
    have e : nrN l k = some p := by unfold nrN; rw [if_pos hb, hp]
    rw [e]
    exact nearN_hit b0 g v l k _ _ true p w h hl rfl hb hp (by simp)
  | false =>
    rcases Nat.eq_zero_or_pos (plN l k) with h0 | h0
    · have e : nrN l k = none := by unfold nrN; rw [hb, h0]; rfl
      rw [e]
      exact nearN_none b0 g v l k w h hl h0 hb
    · obtain ⟨p, hp⟩ : ∃ p, l[plN l k - 1]? = some p := ⟨_, List.getElem?_eq_getElem (by omega)⟩
      have e : nrN l k = some p := by unfold nrN; rw [hb, hp, if_neg (by simp), if_neg (by omega)]
      rw [e]
      exact nearN_hit b0 g v l k _ (plN l k - 1) false p w h hl rfl hb hp (by simp; omega)
theorem setN_any (b0 g : Nat) (v : Value) (l : List PN) (k : Int) (x : Int) (w : World) (h : TbN b0 w g v l) (hl : l.length ≤ 1000000000) (hb0 : b0 ≤ w.heap.size) :
    Calls Tryz.prog 56 #[.pointer (some ⟨g, 0, none⟩), kN k, vN x] w (TbNTo b0 g v (tsetN l k x) (.bool (!pbN l k)) w) := by
  cases hb : pbN l k with
  | true => exact tbN_set_old b0 g v l k x w h hl hb
  | false => exact tbN_set_new b0 g v l k x w h hl hb hb0

/-- What Near finds. -/
def nrT (l : List PT) (k : ByteArray) : Option PT := if pbT l k then l[plT l k]? else if plT l k = 0 then none else l[plT l k - 1]?
def NearT (o : Option PT) (w : World) (e : Ending) (w' : World) : Prop :=
  e = .returned (match o with
    | some p => .tuple #[kT p.1, vT p.2, .bool true]
    | none => .tuple #[(.string ⟨#[]⟩), (.int .i64 0), .bool false]) ∧ Fr [] w w'

set_option maxHeartbeats 1600000 in
theorem nearT_hit (b0 g : Nat) (v : Value) (l : List PT) (k : ByteArray) (Q i : Nat) (B : Bool) (p : PT) (w : World) (h : TbT b0 w g v l) (hl : l.length ≤ 1000000000) (hQ : plT l k = Q) (hb : pbT l k = B) (hp : l[i]? = some p) (hi : if B then i = Q else Q = i + 1) :
    Calls Tryz.prog 72 #[.pointer (some ⟨g, 0, none⟩), kT k] w (NearT (some p) w) := by
  have hlt : i < l.length := (List.getElem?_eq_some_iff.1 hp).1
  obtain ⟨n, hn⟩ : ∃ n, l.length = n := ⟨_, rfl⟩
  have hL := h.L
  rw [hn] at hL hl hlt
  obtain ⟨bb, o, cp, rfl, hbb, hbl, _, _, _, hfz, hcell⟩ := hL.form (by omega)
  have HPL : Hid (Calls Tryz.prog 95 #[.slice (some ⟨bb, o, none⟩) n cp, kT k] w fun e w' => e = .returned (.tuple #[.int .i64 (Q : Nat), .bool B]) ∧ w = w') := by
    have := placeT b0 _ l k w h.L (by omega)
    rw [hQ, hb] at this
    exact this
  have c0 : w.cell? ⟨g, 0, none⟩ = some (.slice (some ⟨bb, o, none⟩) n cp) := h.B.cell 0
  obtain ⟨ck, cv⟩ := cells2_at (fun p : PT => kT p.1) (fun p => vT p.2) l i p hp
  have ck := hcell _ _ ck
  have cv := hcell _ _ cv
  rw [← Nat.add_assoc] at cv
  have i0 : (0 : Int) ≤ (i : Int) := by omega
  have i1 : (i : Int) < (n : Int) := by omega
  have hneg : decide ((i : Int) < 0) = false := decide_eq_false (by omega)
  clear h hb hL hcell hfz hp hQ hn
  unfold NearT
  obtain ⟨pk, pv⟩ := p
  unfold kT vT at *
  simp only at *
  cases B with
  | true =>
    have : i = Q := by simpa using hi
    subst this
    clear hi
    go_enter Tryz.func72, Tryz.ntmps72
    go_wp2_with fail
    refine (Calls.mono HPL.out ?_)
    rintro e w1 ⟨rfl, rfl⟩
    go_upto_region 7 with fail
    go_quiet (fail)
    go_wp2_with fail
    go_ret3
    exact ⟨rfl, (Fr.refl _ _).drewN _⟩
  | false =>
    have : Q = i + 1 := by simpa using hi
    subst this
    have i2 : IntKind.i64.wrap (((i + 1 : Nat) : Int) - 1) = (i : Int) := by rw [show ((i + 1 : Nat) : Int) - 1 = (i : Int) by omega]; exact IntWalk.i64_in _ (by omega)
    clear hi
    go_enter Tryz.func72, Tryz.ntmps72
    go_wp2_with fail
    refine (Calls.mono HPL.out ?_)
    rintro e w1 ⟨rfl, rfl⟩
    go_upto_region 7 with fail
    go_quiet (fail)
    go_wp2_with fail
    go_ret3
    exact ⟨rfl, (Fr.refl _ _).drewN _⟩

theorem nearT_none (b0 g : Nat) (v : Value) (l : List PT) (k : ByteArray) (w : World) (h : TbT b0 w g v l) (hl : l.length ≤ 1000000000) (hQ : plT l k = 0) (hb : pbT l k = false) :
    Calls Tryz.prog 72 #[.pointer (some ⟨g, 0, none⟩), kT k] w (NearT none w) := by
  obtain ⟨A, cp, rfl, _, _⟩ := h.L.look
  obtain ⟨n, hn⟩ : ∃ n, l.length = n := ⟨_, rfl⟩
  have HPL : Hid (Calls Tryz.prog 95 #[.slice A n cp, kT k] w fun e w' => e = .returned (.tuple #[.int .i64 0, .bool false]) ∧ w = w') := by
    have := placeT b0 _ l k w h.L (by omega)
    rw [hQ, hb, hn] at this
    exact this
  have c0 : w.cell? ⟨g, 0, none⟩ = some (.slice A n cp) := by rw [← hn]; exact h.B.cell 0
  obtain ⟨z, hz⟩ : ∃ z, z = w.alloc (.cells #[(.string ⟨#[]⟩), (.int .i64 0)] 145) := ⟨_, rfl⟩
  have hfz : Fr [] w z := by rw [hz]; exact (Fr.refl _ _).alloc _
  have hbz : Bk z w.heap.size 145 #[(.string ⟨#[]⟩), (.int .i64 0)] := by rw [hz]; exact Bk.new _ _ _
  have e0 := hbz.cell 0
  have e1 := hbz.cell 1
  have HZ := Lib.hid hz
  have HFZ := Lib.hid hfz
  clear h hb hQ hn hz hfz hbz hl
  unfold NearT
  unfold kT at *
  go_enter Tryz.func72, Tryz.ntmps72
  go_wp2_with fail
  refine (Calls.mono HPL.out ?_)
  rintro e w1 ⟨rfl, rfl⟩
  go_upto_region 6 with fail
  rw [← HZ.out]
  go_quiet (fail)
  go_wp2_with fail
  go_ret3
  exact ⟨rfl, HFZ.out.drewN _⟩

theorem nearT_any (b0 g : Nat) (v : Value) (l : List PT) (k : ByteArray) (w : World) (h : TbT b0 w g v l) (hl : l.length ≤ 1000000000) :
    Calls Tryz.prog 72 #[.pointer (some ⟨g, 0, none⟩), kT k] w (NearT (nrT l k) w) := by
  have hle := plT_le l k
  cases hb : pbT l k with
  | true =>
    have hp1 := hb
    unfold pbT at hp1
    obtain ⟨p, hp⟩ : ∃ p, l[plT l k]? = some p := by
      cases hh : l[plT l k]? with
      | none => rw [hh] at hp1; cases hp1
      | some p => exact ⟨p, rfl⟩
    have e : nrT l k = some p := by unfold nrT; rw [if_pos hb, hp]
    rw [e]
    exact nearT_hit b0 g v l k _ _ true p w h hl rfl hb hp (by simp)
  | false =>
    rcases Nat.eq_zero_or_pos (plT l k) with h0 | h0
    · have e : nrT l k = none := by unfold nrT; rw [hb, h0]; rfl
      rw [e]
      exact nearT_none b0 g v l k w h hl h0 hb
    · obtain ⟨p, hp⟩ : ∃ p, l[plT l k - 1]? = some p := ⟨_, List.getElem?_eq_getElem (by omega)⟩
      have e : nrT l k = some p := by unfold nrT; rw [hb, hp, if_neg (by simp), if_neg (by omega)]
      rw [e]
      exact nearT_hit b0 g v l k _ (plT l k - 1) false p w h hl rfl hb hp (by simp; omega)
theorem setT_any (b0 g : Nat) (v : Value) (l : List PT) (k : ByteArray) (x : Int) (w : World) (h : TbT b0 w g v l) (hl : l.length ≤ 1000000000) (hb0 : b0 ≤ w.heap.size) :
    Calls Tryz.prog 66 #[.pointer (some ⟨g, 0, none⟩), kT k, vT x] w (TbTTo b0 g v (tsetT l k x) (.bool (!pbT l k)) w) := by
  cases hb : pbT l k with
  | true => exact tbT_set_old b0 g v l k x w h hl hb
  | false => exact tbT_set_new b0 g v l k x w h hl hb hb0
end Go.Proofs.YtdjaalkbpdmdgaaGreat
