/-
  Roots: the scene of RootsFresh: a book, the roots, lists that were handed out.
-/
import Derived.Test.YtdcppdgnekhcgaaGreatDoorBoS
import Derived.Test.YtdcppdgnekhcgaaGreatDoorRtH1
namespace Go.Proofs.YtdcppdgnekhcgaaGreatDoor
open Go.RowKit
set_option maxRecDepth 100000
set_option linter.unusedVariables false

set_option maxHeartbeats 1600000 in
theorem copied_some {b0 : Nat} {ad : Addr} {n cp : Nat} {l : List Int} (w : World) (h : Lst w b0 3 1 (.slice (some ad) n cp) n (iV l)) (hl : n ≤ 5000000000000) :
    Calls Tryz.prog 16 #[.slice (some ad) n cp] w (NewL l w) := by
  obtain ⟨i2, hi2, hz2, hs2, hb2⟩ := info_parts int_info
  have HN := Lib.hid (lst_news h)
  have HLN : Hid (l.length = n) := by have := h.1; rw [iV_length, Nat.mul_one] at this; exact this
  clear h
  go_enter Tryz.func16, Tryz.ntmps16
  go_wp2_with (at_builtin; refine wpList_append_lst2 _ rfl (.const (.slice none 0 0)) (.tmp 3) _ rfl w.heap.size 3 i2 _ 1 8 Tryz.underlying29 hi2 hz2 hs2 hb2 rfl _ 0 [] rfl (Lst.nil _ _ _ _) ad n cp (iV l) rfl (by rw [iV_length, HLN.out]; omega) HN.out ?c2 ?c3 ?c4 ?c5 ?c6)
  case c2 => intro u hu; obtain ⟨x, _, rfl⟩ := List.mem_map.1 hu; rfl
  case c3 => unfold maxLen; omega
  case c4 => intro old h1 h2; exact next_any h1 (by omega)
  case c5 => first | omega | (simp; done) | (simp; omega)
  case c6 =>
    intro v' w' hown hgrow hat
    have HO2 : Hid (Lst w' w.heap.size 3 1 v' n (iV l)) := by
      show Lst w' w.heap.size 3 1 v' n (iV l)
      simpa using hown
    have HF : Hid (Fr [] w w') := (Fr.refl [] w).grown hgrow (by simp [Value.ownBlock])
    clear hown hgrow hat
    go_wp2_with fail
    go_ret
    exact ⟨v', rfl, by rw [HLN.out]; exact HO2.out, HF.out⟩
theorem copied_none (w : World) : Calls Tryz.prog 16 #[.slice none 0 0] w (NewL [] w) := by
  go_enter Tryz.func16, Tryz.ntmps16
  go_wp2_with fail
  go_ret
  exact ⟨_, rfl, Lst.nil _ _ _ _, Fr.refl _ _⟩
theorem copied_any {b0 : Nat} {A : Option Addr} {n cp : Nat} {l : List Int} (w : World) (h : Lst w b0 3 1 (.slice A n cp) n (iV l)) (hl : n ≤ 5000000000000) :
    Calls Tryz.prog 16 #[.slice A n cp] w (NewL l w) := by
  cases A with
  | some ad => exact copied_some w h hl
  | none =>
    rcases h.2 with ⟨e, h0⟩ | ⟨g', off, cap, cur, e, _⟩
    · rw [e]
      subst h0
      have hq : l = [] := List.eq_nil_of_length_eq_zero (by have := h.1; rw [iV_length] at this; omega)
      subst hq
      exact copied_none w
    · cases e

def thRS (b0 g : Nat) (a : RA) (F : List Nat) : Th b0 := ⟨F, fun w => RS b0 w g a F, fun h hf hS => RS.fr h hf hS, fun h x hx => ⟨RS.base h x hx, RS.lt h x hx⟩⟩
theorem Sg.eraseIdx {w0 w : World} {Ts : List (Th w0.heap.size)} (h : Sg w0 Ts w) (i : Nat) : Sg w0 (Ts.eraseIdx i) w := by
  have key : ∀ (j : Nat) (s : Th w0.heap.size), (Ts.eraseIdx i)[j]? = some s → Ts[if j < i then j else j + 1]? = some s := fun j s hj => by
    rw [List.getElem?_eraseIdx] at hj
    split at hj <;> rename_i e
    · rw [if_pos e]; exact hj
    · rw [if_neg e]; exact hj
  refine ⟨fun j s hj => h.ok _ s (key j s hj), fun j k s t hjk hs ht => h.ap _ _ s t ?_ (key j s hs) (key k t ht), h.fr⟩
  split <;> split <;> omega

structure Fsh (w0 : World) (gb g : Nat) (a : RA) (K : Nat) (S : BS) (XW : List (Value × List Int)) (F : List Nat) (Us : List (Th w0.heap.size)) (wr : World) : Prop where
  eg : S.g = gb
  ed : S.deep = 0
  bl : BLk S [] XW [] K 4000000000000
  sg : Sg w0 (bkT w0.heap.size S ++ (thRS w0.heap.size g a F :: Us)) wr

section
variable {w0 : World} {gb g : Nat} {a a' : RA} {K : Nat} {S : BS} {XW : List (Value × List Int)} {F : List Nat} {Us : List (Th w0.heap.size)} {wr w2 : World}
theorem Fsh.quiet (H : Fsh w0 gb g a K S XW F Us wr) (hf : Fr [] wr w2) : Fsh w0 gb g a K S XW F Us w2 := ⟨H.eg, H.ed, H.bl, H.sg.nil hf⟩
theorem Fsh.rs (H : Fsh w0 gb g a K S XW F Us wr) : RS w0.heap.size wr g a F := H.sg.ok 11 (thRS w0.heap.size g a F) rfl
theorem Fsh.lst {i : Nat} {v : Value} {l : List Int} (H : Fsh w0 gb g a K S XW F Us wr) (hi : Us[i]? = some (thLst w0.heap.size 3 v (bV l))) : Lst wr w0.heap.size 3 1 v l.length (bV l) := by
  have h1 := H.sg.ok (12 + i) (thLst w0.heap.size 3 v (bV l)) (by
    rw [List.getElem?_append_right (by rw [bkT_len]; omega), bkT_len, show 12 + i - 11 = i + 1 from by omega, List.getElem?_cons_succ]
    exact hi)
  have h2 : Lst wr w0.heap.size 3 1 v (bV l).length (bV l) := h1
  rw [bV_len] at h2
  exact h2
theorem lst_rdi {w : World} {b0 c : Nat} {A : Option Addr} {l : List Int} (h : Lst w b0 3 1 (.slice A l.length c) l.length (bV l)) : RdI w A l := by
  obtain ⟨A', c', he, hr⟩ := h.rdv
  injection he with e1 _ _
  subst e1
  exact hr
/-- A list that was asked for. -/
theorem Fsh.ask {f : FuncId} {args : Array Value} {l : List Int} (H : Fsh w0 gb g a K S XW F Us wr) (hc : Calls Tryz.prog f args wr (NewL l wr)) :
    Calls Tryz.prog f args wr fun e w' => ∃ A c, e = .returned (.slice A l.length c) ∧ Fsh w0 gb g a K S XW F (Us ++ [thLst w0.heap.size 3 (.slice A l.length c) (bV l)]) w' := by
  refine hc.mono ?_
  rintro e w' ⟨v, rfl, hL, hf⟩
  obtain ⟨A, c, rfl, _, _⟩ := hL.look
  refine ⟨A, c, rfl, H.eg, H.ed, H.bl, ?_⟩
  have := H.sg.push (t := thLst w0.heap.size 3 (.slice A l.length c) (bV l)) hf (by
    show Lst w' w0.heap.size 3 1 _ (bV l).length _
    rw [bV_len]
    exact hL.mono H.sg.fr.size) (fun x hx => (hL.lt x (by simpa [thLst] using hx)).1)
  rw [List.append_assoc] at this
  exact this
theorem Fsh.ints {A : Option Addr} {n c j : Nat} {l : List Int} (z : Int) (H : Fsh w0 gb g a K S XW F Us wr) (hj : Us[j]? = some (thLst w0.heap.size 3 (.slice A n c) (bV l))) (hn : n = l.length) (hl : l.length ≤ 4000000000000) (hK : K ≤ 1000000000000) :
    Calls Tryz.prog 17 #[.pointer (some ⟨gb, 0, none⟩), .slice A n c, .int .i64 z] wr fun e w' => e = .returned (.tuple #[]) ∧ ∃ S' XW', Fsh w0 gb g a (K + 2) S' XW' F (Us.eraseIdx j) w' := by
  have hg := H.eg
  subst hg
  refine (Ints_any (j := j + 1) z H.sg H.bl H.ed hn (by rw [List.getElem?_cons_succ]; exact hj) hl hK (by omega)).mono ?_
  rintro e w' ⟨rfl, S', XW', e1, e2, e3, e4⟩
  refine ⟨rfl, S', XW', e1, e2, e3, ?_⟩
  have h1 := e4.eraseIdx (12 + j)
  rw [List.eraseIdx_append_of_length_le (by rw [bkT_len]; omega), bkT_len, show 12 + j - 11 = j + 1 from by omega, List.set_cons_succ, List.eraseIdx_cons_succ, List.eraseIdx_set_eq] at h1
  exact h1
theorem Fsh.hold (H : Fsh w0 gb g a K S XW F Us wr) : Calls Tryz.prog 7 #[.pointer (some ⟨gb, 0, none⟩)] wr fun e w' => e = .returned (.bool true) ∧ Fr [] wr w' := by
  have hg := H.eg
  subst hg
  exact Hold_any w0.heap.size S wr (BLk.hold H.sg H.bl)
theorem Fsh.same {A B : Option Addr} {c d i j : Nat} {l : List Int} (H : Fsh w0 gb g a K S XW F Us wr) (hi : Us[i]? = some (thLst w0.heap.size 3 (.slice A l.length c) (bV l))) (hj : Us[j]? = some (thLst w0.heap.size 3 (.slice B l.length d) (bV l))) :
    RdI wr A l ∧ RdI wr B l := ⟨lst_rdi (H.lst hi), lst_rdi (H.lst hj)⟩
end
end Go.Proofs.YtdcppdgnekhcgaaGreatDoor
