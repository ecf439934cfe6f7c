/-
  The document's turn: its small functions.
-/
import Derived.Test.YtdcppdgnekhcgaaGreatDoorPol7
namespace Go.Proofs.YtdcppdgnekhcgaaGreatDoor
open Go.RowKit Pol
set_option maxRecDepth 100000
set_option linter.unusedVariables false

/-- The document's turn in its block. -/
def rturnC (c : Nat → Int) (kind words first most : Int) (rv : Value) (cl ov : Bool) : Array Value := #[.int .i64 (c 0), .int .i64 (c 1), .int .i64 (c 2), .int .i64 (c 3), .int .i64 (c 4), .int .i64 (c 5), .int .i64 (c 6), .int .i64 (c 7), .int .i64 (c 8), .int .i64 (c 9), .int .i64 (c 10), .int .i64 (c 11), .int .i64 (c 12), .int .i64 (c 13), .int .i64 kind, .int .i64 words, .int .i64 first, .int .i64 most, rv, .bool cl, .bool ov]

/-- The document's turn in a world: what it was made for, what it has run, whether it closes, whether it is over. -/
structure RB (w : World) (g : Nat) (c : Nat → Int) (kind words first most : Int) (l : List Int) (cl ov : Bool) (rv : Value) : Prop where
  B : Bk w g 104 (rturnC c kind words first most rv cl ov)
  O : w.ownsRow 0 3 1 rv l.length (ints l)

theorem RB.apart {w : World} {g : Nat} {c : Nat → Int} {kind words first most : Int} {l : List Int} {cl ov : Bool} {rv : Value} (P : RB w g c kind words first most l cl ov rv) : ∀ k, rv.ownBlock = some k → k ≠ g := by
  intro k hk
  obtain ⟨cs, hb⟩ := own_bk P.O hk
  exact hb.ne P.B (by decide)

theorem RB.fr {w w' : World} {g : Nat} {c : Nat → Int} {kind words first most : Int} {l : List Int} {cl ov : Bool} {rv : Value} {S : List Nat} (P : RB w g c kind words first most l cl ov rv) (hf : Fr S w w') (hg : g ∉ S) (hr : ∀ k, rv.ownBlock = some k → k ∉ S) : RB w' g c kind words first most l cl ov rv :=
  ⟨P.B.fr hf hg, own_fr P.O hf hr⟩

/-- What a call on it leaves. -/
def RPost (g : Nat) (c : Nat → Int) (kind words first most : Int) (l' : List Int) (cl ov : Bool) (rv : Value) (w w' : World) : Prop :=
  ∃ rv', RB w' g c kind words first most l' cl ov rv' ∧ (rv'.ownBlock = rv.ownBlock ∨ ∃ b, rv'.ownBlock = some b ∧ w.heap.size ≤ b) ∧ Fr (g :: rv.ownBlock.toList) w w'

theorem RPost.of_fr {w w1 w' : World} {g : Nat} {c : Nat → Int} {kind words first most : Int} {l' : List Int} {cl ov : Bool} {rv : Value} {S : List Nat} (h : RPost g c kind words first most l' cl ov rv w1 w') (hf : Fr S w w1) (hS : ∀ x ∈ S, x = g ∨ w.heap.size ≤ x) : RPost g c kind words first most l' cl ov rv w w' := by
  obtain ⟨rv', h1, h2, h3⟩ := h
  refine ⟨rv', h1, h2.imp id (fun ⟨b, hb, hl⟩ => ⟨b, hb, Nat.le_trans hf.size hl⟩), ?_⟩
  exact (hf.mono (T := g :: rv.ownBlock.toList) (fun x hx => (hS x hx).imp (fun e => by simp [e]) id)).trans h3 (fun x hx => .inl hx)

theorem RPost.self {w w' : World} {g : Nat} {c : Nat → Int} {kind words first most : Int} {l : List Int} {cl ov : Bool} {rv : Value} (P : RB w' g c kind words first most l cl ov rv) (hf : Fr [g] w w') : RPost g c kind words first most l cl ov rv w w' :=
  ⟨rv, P, .inl rfl, hf.mono (by simp)⟩

/-- 'Closing' or 'Over' is laid. -/
theorem RB.close {w : World} {g : Nat} {c : Nat → Int} {kind words first most : Int} {l : List Int} {cl ov : Bool} {rv : Value} (P : RB w g c kind words first most l cl ov rv) : RB (w.setCell ⟨g, 19, none⟩ (.bool true)) g c kind words first most l true ov rv :=
  ⟨P.B.put 19 _, own_fr P.O ((Fr.refl [g] w).setCell (by simp) _) (fun k hk => by simpa using P.apart k hk)⟩
theorem RB.over {w : World} {g : Nat} {c : Nat → Int} {kind words first most : Int} {l : List Int} {cl ov : Bool} {rv : Value} (P : RB w g c kind words first most l cl ov rv) : RB (w.setCell ⟨g, 20, none⟩ (.bool true)) g c kind words first most l cl true rv :=
  ⟨P.B.put 20 _, own_fr P.O ((Fr.refl [g] w).setCell (by simp) _) (fun k hk => by simpa using P.apart k hk)⟩

theorem above_any (n : Int) (w : World) : Calls Tryz.prog 71 #[.int .i64 n] w fun e w' => e = .returned (.int .i64 (clip n)) ∧ w' = w := by
  by_cases h : n < 0
  · have e : clip n = 0 := by simp [clip, h]
    rw [e]
    go_enter Tryz.func71, Tryz.ntmps71
    go_wp2
    go_ret
    exact ⟨rfl, rfl⟩
  · have e : clip n = n := by simp [clip, h]
    rw [e]
    go_enter Tryz.func71, Tryz.ntmps71
    go_wp2
    go_ret
    exact ⟨rfl, rfl⟩

theorem own_cell {w : World} {base : Nat} {e : TypeId} {l : List Int} {rv : Value} (h : w.ownsRow base e 1 rv l.length (ints l)) (i : Nat) (x : Int) (hx : l[i]? = some x) :
    ∃ b cap, rv = .slice (some ⟨b, 0, none⟩) l.length cap ∧ w.cell? ⟨b, i, none⟩ = some (.int .i64 x) := by
  have hi : i < l.length := (List.getElem?_eq_some_iff.1 hx).1
  rcases h.2 with ⟨_, h0⟩ | ⟨b, cap, cur, rfl, _⟩
  · omega
  · exact ⟨b, cap, rfl, by rw [h.cellAt i (by omega), ints, List.getElem?_map, hx]; rfl⟩

theorem own_form {w : World} {base : Nat} {e : TypeId} {l : List Int} {rv : Value} (h : w.ownsRow base e 1 rv l.length (ints l)) : ∃ A cap, rv = .slice A l.length cap := by
  rcases h.2 with ⟨rfl, h0⟩ | ⟨b, cap, cur, rfl, _⟩
  · exact ⟨none, 0, by rw [h0]⟩
  · exact ⟨_, cap, rfl⟩

theorem ran_any (g : Nat) (c : Nat → Int) (kind words first most : Int) (l : List Int) (cl ov : Bool) (rv : Value) (x : Int) (w : World) (P : RB w g c kind words first most l cl ov rv) (hl : l.length ≤ 3) :
    Calls Tryz.prog 73 #[.pointer (some ⟨g, 0, none⟩), .int .i64 x] w fun e w' => e = .returned (.bool (decide (x ∈ l))) ∧ w' = w := by
  have HP := Lib.hid P
  have h18 : w.cell? ⟨g, 18, none⟩ = some rv := P.B.cell 18
  have hg := P.B.lt
  obtain ⟨A, cap, hrv⟩ := own_form P.O
  clear P
  rw [hrv] at h18
  have HRV := Lib.hid hrv
  clear hrv
  go_enter Tryz.func73, Tryz.ntmps73
  go_wp2
  go_loopw [5] (fun i wr => ∃ k : Nat, k ≤ l.length ∧ i = .int .i64 k ∧ w = wr ∧ Hid (x ∉ l.take k)) (fun i _ => l.length - (intOf i).toNat)
  case atStart => exact ⟨0, by omega, rfl, rfl, by simp [Hid]⟩
  case round =>
    obtain ⟨k, hk, rfl, rfl, hn⟩ := hrel
    by_cases hlt : k < l.length
    · obtain ⟨y, hy⟩ : ∃ y, l[k]? = some y := ⟨_, List.getElem?_eq_getElem hlt⟩
      obtain ⟨b, cap', hv, hc⟩ := own_cell HP.out.O k y hy
      rw [HRV.out] at hv
      injection hv with hA hn' hcap
      subst hA
      have e1 : (k : Int) < (l.length : Int) := by omega
      have e2 : (0 : Int) ≤ (k : Int) := by omega
      by_cases hxy : y = x
      · have e3 : (y == x) = true := by simpa using hxy
        have E : Hid (x ∈ l) := by
          have := List.mem_of_getElem? hy
          rw [hxy] at this
          exact this
        have HY := Lib.hid hy
        have HXY := Lib.hid hxy
        clear hy hxy hn'
        go_wp2
        go_ret
        exact ⟨by rw [decide_eq_true E.out]; rfl, rfl⟩
      · have e3 : (y == x) = false := by simpa using hxy
        have E : Hid (x ∉ l.take (k + 1)) := by
          rw [List.take_add_one, hy]
          simp only [Option.toList_some, List.mem_append, List.mem_singleton, not_or]
          exact ⟨hn.out, fun e => hxy e.symm⟩
        have HY := Lib.hid hy
        have HXY := Lib.hid hxy
        clear hy hxy hn'
        go_wp2
        go_roundw
        case rel => exact ⟨k + 1, by omega, by go_num, by trivial, E⟩
        case measure => simp [intOf]; omega
    · have E : Hid (x ∉ l) := by
        have := hn.out
        rwa [List.take_of_length_le (by omega)] at this
      go_wp2
      go_ret
      exact ⟨by rw [decide_eq_false E.out]; rfl, rfl⟩

/-- A cycle is told. -/
theorem cycle_any (g : Nat) (c : Nat → Int) (kind words first most : Int) (l : List Int) (cl ov : Bool) (rv : Value) (n x : Int) (w : World) (P : RB w g c kind words first most l cl ov rv) (hl : l.length ≤ 3) :
    Calls Tryz.prog 74 #[.pointer (some ⟨g, 0, none⟩), .int .i64 n, .int .i64 x] w fun e w' => e = .returned (.int .i64 n) ∧ RPost g c kind words first most (l ++ [x]) cl ov rv w w' := by
  have HP := Lib.hid P
  have h18 : w.cell? ⟨g, 18, none⟩ = some rv := P.B.cell 18
  have hf18 := P.B.free 18
  have hg := P.B.lt
  clear P
  obtain ⟨i0, hi, hz0, hz1, hz2⟩ := info_parts int_info
  go_enter Tryz.func74, Tryz.ntmps74
  go_wp2_with (at_builtin; refine wpList_append_lies _ rfl (.tmp 11) (.tmp 13) _ rfl 0 3 i0 (.int .i64 0) 1 8 Tryz.underlying29 hi hz0 hz1 hz2 rfl (by decide) rv l.length (ints l) rfl (HP.out.O.alloc _) ⟨w.heap.size, 0, none⟩ 1 1 [.int .i64 x] rfl rfl (cell_one_new _ _ _) ?c2 (by decide) ?c3 ?c4 (Nat.zero_le _) _ rfl ?c5)
  case c2 => simp [Value.oneCell']
  case c3 => unfold maxLen; omega
  case c4 => omega
  case c5 =>
    intro b cap w3 hown hgrow hat hlt3
    have hne : g ≠ b := by
      rcases hat with h | h
      · exact fun e => HP.out.apart b h e.symm
      · omega
    have hB3 : Hid (Bk w3 g 104 (rturnC c kind words first most rv cl ov)) := (HP.out.B.alloc _).fr (Fr.of_grown hgrow) (fun h => by
      have := HP.out.apart g (by simpa using h)
      exact this rfl)
    have hF3 : Hid (Fr (g :: rv.ownBlock.toList) w w3) := ((Fr.refl _ w).alloc _).grown hgrow (fun k hk => by simp [hk])
    have hat' : Hid (rv.ownBlock = some b ∨ w.heap.size ≤ b) := by
      rcases hat with h | h
      · exact .inl h
      · right
        omega
    have HO3 := Lib.hid hown
    have d18 : w3.cell? ⟨g, 18, none⟩ = some rv := hB3.out.cell 18
    have df18 := hB3.out.free 18
    clear hown hgrow hat h18 hf18
    go_wp2_with fail
    go_ret
    refine ⟨rfl, .slice (some ⟨b, 0, none⟩) (l.length + 1) cap, ⟨hB3.out.put 18 _, ?_⟩, ?_, hF3.out.setCell (by simp) _⟩
    · have h2 := own_fr HO3.out ((Fr.refl [g] w3).setCell (p := ⟨g, 18, none⟩) (by simp) (.slice (some ⟨b, 0, none⟩) (l.length + 1) cap)) (fun k hk => by
        have : k = b := by simpa [Value.ownBlock] using hk.symm
        subst this
        simpa using Ne.symm hne)
      simpa [ints] using h2
    · rcases hat'.out with h | h
      · exact .inl h.symm
      · exact .inr ⟨b, rfl, h⟩
end Go.Proofs.YtdcppdgnekhcgaaGreatDoor
