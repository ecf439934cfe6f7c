/-
  The argument 'Ask': its views are at most its bulk.
-/
import Derived.Test.YtdcppdgnekhcgaaGreatDoorPolAsk
import Derived.Test.YtdcppdgnekhcgaaGreatDoorLawU
namespace Go.Proofs.YtdcppdgnekhcgaaGreatDoor
open Go.ChangeShapes Go.WideShapes Go.ChangeAt Go.RowKit Go.Deep Pol
set_option maxRecDepth 100000

theorem views_bulk {H : Type} {enc : TypeId × Value → H} {w : World} {base : Nat} {sp : Nat → Bool} {held : Bool} {fuel : Nat} {A : Option Addr} {n c : Nat} {x : DataW H × List MemPlace}
    (h : DataW.trod enc Tryz.prog w base sp held fuel 24 [.slice A n c] = some x) : n ≤ Rows.uptoBulk x.1 := by
  rcases open_slice Tryz.underlying24 h with ⟨hcs, _⟩ | ⟨a, len, cap, m, n', D, Pl, hcs, hb, hl, hm, hmm, hx, hi⟩
  · have h1 : Value.slice A n c = .slice none 0 0 := by simpa using hcs
    injection h1 with _ h2 _
    omega
  · have h1 : Value.slice A n c = .slice (some a) len cap := by simpa using hcs
    injection h1 with _ h2 _
    subst h2
    rw [hx]
    have := bulk_slice ((List.range n).map D) ((List.range (m - n)).map fun j => D (n + j))
    rw [List.length_map, List.length_range] at this
    show n ≤ Rows.uptoBulk (.slice ((List.range n).map D) ((List.range (m - n)).map fun j => D (n + j)))
    omega
theorem ask_bulk {H : Type} {enc : TypeId × Value → H} {w : World} {base : Nat} {sp : Nat → Bool} {held : Bool} {c : Nat → Int} {bs kind words : Int} {A : Option Addr} {n cap : Nat} {d : DataW H} {p : List MemPlace}
    (h : DataW.Trod enc Tryz.prog w base sp held 26 (.agg (askA c bs kind words (.slice A n cap))) d p) : n ≤ Rows.uptoBulk d := by
  obtain ⟨fuel, hf⟩ := h
  obtain ⟨xs, n', _, hx, hlen, hxl, hfld⟩ := DataW.trod_struct Tryz.underlying26 (show DataW.trod enc Tryz.prog w base sp held fuel 26 (askA c bs kind words (.slice A n cap)).toList = _ from hf)
  have hx5 : xs.length = 5 := hxl
  obtain ⟨y4, hy4⟩ : ∃ y, xs[4]? = some y := ⟨_, List.getElem?_eq_getElem (by omega)⟩
  have f4 : DataW.trod enc Tryz.prog w base sp held n' 24 (((askA c bs kind words (.slice A n cap)).toList.drop 17).take (Tryz.prog.cellsOf 24)) = some y4 := (hfld 4 _ rfl).trans hy4
  rw [cellsViews] at f4
  have h1 := views_bulk (show DataW.trod enc Tryz.prog w base sp held n' 24 [.slice A n cap] = some y4 from f4)
  have hd : d = .agg (xs.map (·.1)) := congrArg Prod.fst hx
  rw [hd]
  have := bulk_agg (d := y4.1) (parts := xs.map (·.1)) (List.mem_map.2 ⟨y4, List.mem_of_getElem? hy4, rfl⟩)
  omega
end Go.Proofs.YtdcppdgnekhcgaaGreatDoor
