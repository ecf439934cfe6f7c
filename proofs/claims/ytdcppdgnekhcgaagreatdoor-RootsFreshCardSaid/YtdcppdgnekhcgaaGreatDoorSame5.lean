/-
  sameInts: are two lists of numbers one?
-/
import Derived.Test.YtdcppdgnekhcgaaGreatDoorRows
import Derived.Test.YtdcppdgnekhcgaaGreatDoorBase
import Derived.Deep.QuietTactic
import Derived.BigQuiet
namespace Go.Proofs.YtdcppdgnekhcgaaGreatDoor
open Go.RowKit
set_option maxRecDepth 100000
set_option linter.unusedVariables false

theorem same_len (A B : Option Addr) (l l' : List Int) (c d : Nat) (w : World) (hl : l.length ≤ 9223372036854775807) (hl' : l'.length ≤ 9223372036854775807) (hne : l.length ≠ l'.length) :
    Calls Tryz.prog 18 #[.slice A l.length c, .slice B l'.length d] w fun e w' => e = .returned (.bool false) ∧ Fr [] w w' := by
  have hb : (((l.length : Int)) != (l'.length : Int)) = true := by rw [bne_iff_ne]; omega
  go_enter Tryz.func18, Tryz.ntmps18
  go_wp2
  go_ret
  exact ⟨rfl, Fr.refl _ _⟩

theorem same_yes (A B : Option Addr) (l : List Int) (n c d : Nat) (w : World) (hn : n = l.length) (h : RdI w A l) (h' : RdI w B l) :
    Calls Tryz.prog 18 #[.slice A n c, .slice B n d] w fun e w' => e = .returned (.bool true) ∧ Fr [] w w' := by
  have H := Lib.hid h
  have H' := Lib.hid h'
  have hlen := h.1
  rw [← hn] at hlen
  have HN := Lib.hid hn
  clear h h' hn
  go_enter Tryz.func18, Tryz.ntmps18
  go_wp2
  go_loopw [5] (fun i wr => ∃ k : Nat, k ≤ n ∧ i = .int .i64 k ∧ Fr [] w wr) (fun i _ => n - (intOf i).toNat)
  case atStart => exact ⟨0, by omega, rfl, Fr.refl _ _⟩
  case round =>
    obtain ⟨k, hk, rfl, hfr⟩ := hrel
    have HF := Lib.hid hfr
    clear hfr
    by_cases hlt : k < n
    · have HR := Lib.hid (H.out.fr HF.out (by simp))
      have HR' := Lib.hid (H'.out.fr HF.out (by simp))
      obtain ⟨b, o, rfl, hb, hc⟩ := HR.out.2 (by have := HN.out; omega)
      obtain ⟨b', o', rfl, hb', hc'⟩ := HR'.out.2 (by have := HN.out; omega)
      have hx : ∃ x, l[k]? = some x := ⟨_, List.getElem?_eq_getElem (by have := HN.out; omega)⟩
      obtain ⟨x, hx⟩ := hx
      have c1 := hc k x hx
      have c2 := hc' k x hx
      clear hc hc' hx
      have e1 : (k : Int) < (n : Int) := by omega
      have e2 : (0 : Int) ≤ (k : Int) := by omega
      go_wp2
      go_quiet (fail)
      go_wp2
      go_roundw
      case rel => exact ⟨k + 1, by omega, by go_num, HF.out.drewN _⟩
      case measure => simp [intOf]; omega
    · go_wp2
      go_ret
      exact ⟨rfl, HF.out⟩
end Go.Proofs.YtdcppdgnekhcgaaGreatDoor
