/-
  The Book of middenkept: the kinds of which it has no list.
-/
import Derived.Test.YtdcppdgnekhcgaaGreatDoorRows
import Derived.Test.YtdcppdgnekhcgaaGreatDoorBo1
import Derived.Deep.DeepCutAuto
import Derived.Deep.QuietTactic
import Derived.BigQuiet
import Derived.IntWalk
import Derived.Laws.EntriesVeiled
import Derived.Deep.AppendLies
import Derived.WalkSpells
namespace Go.Proofs.YtdcppdgnekhcgaaGreatDoor
open Go.RowKit
set_option linter.unusedVariables false

set_option maxRecDepth 100000 in
theorem markBytes_any (S : BS) (w : World) (h : Bk w S.g 43 (bookA S)) : Calls Tryz.prog 100 #[.pointer (some ⟨S.g, 0, none⟩)] w fun e w' => e = .returned (.tuple #[]) ∧ w = w' := by
  have c1 : w.cell? ⟨S.g, 6, none⟩ = some (.slice none 0 0) := h.cell 6
  have c2 : w.cell? ⟨S.g, 7, none⟩ = some (.slice none 0 0) := h.cell 7
  have c3 : w.cell? ⟨S.g, 9, none⟩ = some (.slice none 0 0) := h.cell 9
  have c4 : w.cell? ⟨S.g, 10, none⟩ = some (.slice none 0 0) := h.cell 10
  clear h
  go_enter Tryz.func100, Tryz.ntmps100
  go_wp2_with fail
  go_returns
  exact ⟨rfl, rfl⟩
set_option maxRecDepth 100000 in
theorem growBytes_any (S : BS) (w : World) (h : Bk w S.g 43 (bookA S)) : Calls Tryz.prog 113 #[.pointer (some ⟨S.g, 0, none⟩)] w fun e w' => e = .returned (.tuple #[]) ∧ Bk w' S.g 43 (bookA S) ∧ Fr [S.g] w w' := by
  have H := Lib.hid h
  have c1 : w.cell? ⟨S.g, 8, none⟩ = some (.slice none 0 0) := h.cell 8
  have f1 := h.free 8
  have c2 : w.cell? ⟨S.g, 11, none⟩ = some (.slice none 0 0) := h.cell 11
  have f2 := h.free 11
  clear h
  go_enter Tryz.func113, Tryz.ntmps113
  go_wp2_with fail
  go_loopw [2] (fun u wr => u = .int .i64 0 ∧ w = wr) (fun _ _ => 0)
  case atStart => exact ⟨rfl, rfl⟩
  case round =>
    obtain ⟨rfl, rfl⟩ := hrel
    go_wp2_with fail
    go_returns
    exact ⟨rfl, (H.out.put 8 (.slice none 0 0)).put 11 (.slice none 0 0), ((Fr.refl _ _).setCell (.inl (by simp)) _).setCell (.inl (by simp)) _⟩
set_option maxRecDepth 100000 in
theorem holdBytes_any (S : BS) (w : World) (h : Bk w S.g 43 (bookA S)) : Calls Tryz.prog 31 #[.pointer (some ⟨S.g, 0, none⟩)] w fun e w' => e = .returned (.bool true) ∧ w = w' := by
  have c1 : w.cell? ⟨S.g, 4, none⟩ = some (.slice none 0 0) := h.cell 4
  have c2 : w.cell? ⟨S.g, 6, none⟩ = some (.slice none 0 0) := h.cell 6
  clear h
  go_enter Tryz.func31, Tryz.ntmps31
  go_wp2_with fail
  go_loopw [3] (fun u wr => u = .int .i64 0 ∧ w = wr) (fun _ _ => 0)
  case atStart => exact ⟨rfl, rfl⟩
  case round =>
    obtain ⟨rfl, rfl⟩ := hrel
    go_wp2_with fail
    go_loopw [4] (fun u wr => u = .int .i64 0 ∧ w = wr) (fun _ _ => 0)
    case atStart => exact ⟨rfl, rfl⟩
    case round =>
      obtain ⟨rfl, rfl⟩ := hrel
      go_wp2_with fail
      go_ret
      exact ⟨rfl, rfl⟩
set_option maxRecDepth 100000 in
theorem markBools_any (S : BS) (w : World) (h : Bk w S.g 43 (bookA S)) : Calls Tryz.prog 102 #[.pointer (some ⟨S.g, 0, none⟩)] w fun e w' => e = .returned (.tuple #[]) ∧ w = w' := by
  have c1 : w.cell? ⟨S.g, 24, none⟩ = some (.slice none 0 0) := h.cell 24
  have c2 : w.cell? ⟨S.g, 25, none⟩ = some (.slice none 0 0) := h.cell 25
  have c3 : w.cell? ⟨S.g, 27, none⟩ = some (.slice none 0 0) := h.cell 27
  have c4 : w.cell? ⟨S.g, 28, none⟩ = some (.slice none 0 0) := h.cell 28
  clear h
  go_enter Tryz.func102, Tryz.ntmps102
  go_wp2_with fail
  go_returns
  exact ⟨rfl, rfl⟩
set_option maxRecDepth 100000 in
theorem growBools_any (S : BS) (w : World) (h : Bk w S.g 43 (bookA S)) : Calls Tryz.prog 115 #[.pointer (some ⟨S.g, 0, none⟩)] w fun e w' => e = .returned (.tuple #[]) ∧ Bk w' S.g 43 (bookA S) ∧ Fr [S.g] w w' := by
  have H := Lib.hid h
  have c1 : w.cell? ⟨S.g, 26, none⟩ = some (.slice none 0 0) := h.cell 26
  have f1 := h.free 26
  have c2 : w.cell? ⟨S.g, 29, none⟩ = some (.slice none 0 0) := h.cell 29
  have f2 := h.free 29
  clear h
  go_enter Tryz.func115, Tryz.ntmps115
  go_wp2_with fail
  go_loopw [2] (fun u wr => u = .int .i64 0 ∧ w = wr) (fun _ _ => 0)
  case atStart => exact ⟨rfl, rfl⟩
  case round =>
    obtain ⟨rfl, rfl⟩ := hrel
    go_wp2_with fail
    go_returns
    exact ⟨rfl, (H.out.put 26 (.slice none 0 0)).put 29 (.slice none 0 0), ((Fr.refl _ _).setCell (.inl (by simp)) _).setCell (.inl (by simp)) _⟩
set_option maxRecDepth 100000 in
theorem holdBools_any (S : BS) (w : World) (h : Bk w S.g 43 (bookA S)) : Calls Tryz.prog 33 #[.pointer (some ⟨S.g, 0, none⟩)] w fun e w' => e = .returned (.bool true) ∧ w = w' := by
  have c1 : w.cell? ⟨S.g, 22, none⟩ = some (.slice none 0 0) := h.cell 22
  have c2 : w.cell? ⟨S.g, 24, none⟩ = some (.slice none 0 0) := h.cell 24
  clear h
  go_enter Tryz.func33, Tryz.ntmps33
  go_wp2_with fail
  go_loopw [3] (fun u wr => u = .int .i64 0 ∧ w = wr) (fun _ _ => 0)
  case atStart => exact ⟨rfl, rfl⟩
  case round =>
    obtain ⟨rfl, rfl⟩ := hrel
    go_wp2_with fail
    go_loopw [4] (fun u wr => u = .int .i64 0 ∧ w = wr) (fun _ _ => 0)
    case atStart => exact ⟨rfl, rfl⟩
    case round =>
      obtain ⟨rfl, rfl⟩ := hrel
      go_wp2_with fail
      go_ret
      exact ⟨rfl, rfl⟩
set_option maxRecDepth 100000 in
theorem markWords_any (S : BS) (w : World) (h : Bk w S.g 43 (bookA S)) : Calls Tryz.prog 103 #[.pointer (some ⟨S.g, 0, none⟩)] w fun e w' => e = .returned (.tuple #[]) ∧ w = w' := by
  have c1 : w.cell? ⟨S.g, 33, none⟩ = some (.slice none 0 0) := h.cell 33
  have c2 : w.cell? ⟨S.g, 34, none⟩ = some (.slice none 0 0) := h.cell 34
  have c3 : w.cell? ⟨S.g, 36, none⟩ = some (.slice none 0 0) := h.cell 36
  have c4 : w.cell? ⟨S.g, 37, none⟩ = some (.slice none 0 0) := h.cell 37
  clear h
  go_enter Tryz.func103, Tryz.ntmps103
  go_wp2_with fail
  go_returns
  exact ⟨rfl, rfl⟩
set_option maxRecDepth 100000 in
theorem growWords_any (S : BS) (w : World) (h : Bk w S.g 43 (bookA S)) : Calls Tryz.prog 116 #[.pointer (some ⟨S.g, 0, none⟩)] w fun e w' => e = .returned (.tuple #[]) ∧ Bk w' S.g 43 (bookA S) ∧ Fr [S.g] w w' := by
  have H := Lib.hid h
  have c1 : w.cell? ⟨S.g, 35, none⟩ = some (.slice none 0 0) := h.cell 35
  have f1 := h.free 35
  have c2 : w.cell? ⟨S.g, 38, none⟩ = some (.slice none 0 0) := h.cell 38
  have f2 := h.free 38
  clear h
  go_enter Tryz.func116, Tryz.ntmps116
  go_wp2_with fail
  go_loopw [2] (fun u wr => u = .int .i64 0 ∧ w = wr) (fun _ _ => 0)
  case atStart => exact ⟨rfl, rfl⟩
  case round =>
    obtain ⟨rfl, rfl⟩ := hrel
    go_wp2_with fail
    go_returns
    exact ⟨rfl, (H.out.put 35 (.slice none 0 0)).put 38 (.slice none 0 0), ((Fr.refl _ _).setCell (.inl (by simp)) _).setCell (.inl (by simp)) _⟩
set_option maxRecDepth 100000 in
theorem holdWords_any (S : BS) (w : World) (h : Bk w S.g 43 (bookA S)) : Calls Tryz.prog 34 #[.pointer (some ⟨S.g, 0, none⟩)] w fun e w' => e = .returned (.bool true) ∧ w = w' := by
  have c1 : w.cell? ⟨S.g, 31, none⟩ = some (.slice none 0 0) := h.cell 31
  have c2 : w.cell? ⟨S.g, 33, none⟩ = some (.slice none 0 0) := h.cell 33
  clear h
  go_enter Tryz.func34, Tryz.ntmps34
  go_wp2_with fail
  go_loopw [3] (fun u wr => u = .int .i64 0 ∧ w = wr) (fun _ _ => 0)
  case atStart => exact ⟨rfl, rfl⟩
  case round =>
    obtain ⟨rfl, rfl⟩ := hrel
    go_wp2_with fail
    go_loopw [4] (fun u wr => u = .int .i64 0 ∧ w = wr) (fun _ _ => 0)
    case atStart => exact ⟨rfl, rfl⟩
    case round =>
      obtain ⟨rfl, rfl⟩ := hrel
      go_wp2_with fail
      go_ret
      exact ⟨rfl, rfl⟩
set_option maxRecDepth 100000 in
theorem markTexts_any (S : BS) (w : World) (h : Bk w S.g 43 (bookA S)) : Calls Tryz.prog 104 #[.pointer (some ⟨S.g, 0, none⟩)] w fun e w' => e = .returned (.tuple #[]) ∧ w = w' := by
  have c1 : w.cell? ⟨S.g, 42, none⟩ = some (.slice none 0 0) := h.cell 42
  have c2 : w.cell? ⟨S.g, 43, none⟩ = some (.slice none 0 0) := h.cell 43
  have c3 : w.cell? ⟨S.g, 45, none⟩ = some (.slice none 0 0) := h.cell 45
  have c4 : w.cell? ⟨S.g, 46, none⟩ = some (.slice none 0 0) := h.cell 46
  clear h
  go_enter Tryz.func104, Tryz.ntmps104
  go_wp2_with fail
  go_returns
  exact ⟨rfl, rfl⟩
set_option maxRecDepth 100000 in
theorem growTexts_any (S : BS) (w : World) (h : Bk w S.g 43 (bookA S)) : Calls Tryz.prog 117 #[.pointer (some ⟨S.g, 0, none⟩)] w fun e w' => e = .returned (.tuple #[]) ∧ Bk w' S.g 43 (bookA S) ∧ Fr [S.g] w w' := by
  have H := Lib.hid h
  have c1 : w.cell? ⟨S.g, 44, none⟩ = some (.slice none 0 0) := h.cell 44
  have f1 := h.free 44
  have c2 : w.cell? ⟨S.g, 47, none⟩ = some (.slice none 0 0) := h.cell 47
  have f2 := h.free 47
  clear h
  go_enter Tryz.func117, Tryz.ntmps117
  go_wp2_with fail
  go_loopw [2] (fun u wr => u = .int .i64 0 ∧ w = wr) (fun _ _ => 0)
  case atStart => exact ⟨rfl, rfl⟩
  case round =>
    obtain ⟨rfl, rfl⟩ := hrel
    go_wp2_with fail
    go_returns
    exact ⟨rfl, (H.out.put 44 (.slice none 0 0)).put 47 (.slice none 0 0), ((Fr.refl _ _).setCell (.inl (by simp)) _).setCell (.inl (by simp)) _⟩
set_option maxRecDepth 100000 in
theorem holdTexts_any (S : BS) (w : World) (h : Bk w S.g 43 (bookA S)) : Calls Tryz.prog 35 #[.pointer (some ⟨S.g, 0, none⟩)] w fun e w' => e = .returned (.bool true) ∧ w = w' := by
  have c1 : w.cell? ⟨S.g, 40, none⟩ = some (.slice none 0 0) := h.cell 40
  have c2 : w.cell? ⟨S.g, 42, none⟩ = some (.slice none 0 0) := h.cell 42
  clear h
  go_enter Tryz.func35, Tryz.ntmps35
  go_wp2_with fail
  go_loopw [3] (fun u wr => u = .int .i64 0 ∧ w = wr) (fun _ _ => 0)
  case atStart => exact ⟨rfl, rfl⟩
  case round =>
    obtain ⟨rfl, rfl⟩ := hrel
    go_wp2_with fail
    go_loopw [4] (fun u wr => u = .int .i64 0 ∧ w = wr) (fun _ _ => 0)
    case atStart => exact ⟨rfl, rfl⟩
    case round =>
      obtain ⟨rfl, rfl⟩ := hrel
      go_wp2_with fail
      go_ret
      exact ⟨rfl, rfl⟩
set_option maxRecDepth 100000 in
theorem markMoves_any (S : BS) (w : World) (h : Bk w S.g 43 (bookA S)) : Calls Tryz.prog 105 #[.pointer (some ⟨S.g, 0, none⟩)] w fun e w' => e = .returned (.tuple #[]) ∧ w = w' := by
  have c1 : w.cell? ⟨S.g, 51, none⟩ = some (.slice none 0 0) := h.cell 51
  have c2 : w.cell? ⟨S.g, 52, none⟩ = some (.slice none 0 0) := h.cell 52
  have c3 : w.cell? ⟨S.g, 54, none⟩ = some (.slice none 0 0) := h.cell 54
  have c4 : w.cell? ⟨S.g, 55, none⟩ = some (.slice none 0 0) := h.cell 55
  clear h
  go_enter Tryz.func105, Tryz.ntmps105
  go_wp2_with fail
  go_returns
  exact ⟨rfl, rfl⟩
set_option maxRecDepth 100000 in
theorem growMoves_any (S : BS) (w : World) (h : Bk w S.g 43 (bookA S)) : Calls Tryz.prog 118 #[.pointer (some ⟨S.g, 0, none⟩)] w fun e w' => e = .returned (.tuple #[]) ∧ Bk w' S.g 43 (bookA S) ∧ Fr [S.g] w w' := by
  have H := Lib.hid h
  have c1 : w.cell? ⟨S.g, 53, none⟩ = some (.slice none 0 0) := h.cell 53
  have f1 := h.free 53
  have c2 : w.cell? ⟨S.g, 56, none⟩ = some (.slice none 0 0) := h.cell 56
  have f2 := h.free 56
  clear h
  go_enter Tryz.func118, Tryz.ntmps118
  go_wp2_with fail
  go_loopw [2] (fun u wr => u = .int .i64 0 ∧ w = wr) (fun _ _ => 0)
  case atStart => exact ⟨rfl, rfl⟩
  case round =>
    obtain ⟨rfl, rfl⟩ := hrel
    go_wp2_with fail
    go_returns
    exact ⟨rfl, (H.out.put 53 (.slice none 0 0)).put 56 (.slice none 0 0), ((Fr.refl _ _).setCell (.inl (by simp)) _).setCell (.inl (by simp)) _⟩
set_option maxRecDepth 100000 in
theorem holdMoves_any (S : BS) (w : World) (h : Bk w S.g 43 (bookA S)) : Calls Tryz.prog 36 #[.pointer (some ⟨S.g, 0, none⟩)] w fun e w' => e = .returned (.bool true) ∧ w = w' := by
  have c1 : w.cell? ⟨S.g, 49, none⟩ = some (.slice none 0 0) := h.cell 49
  have c2 : w.cell? ⟨S.g, 51, none⟩ = some (.slice none 0 0) := h.cell 51
  clear h
  go_enter Tryz.func36, Tryz.ntmps36
  go_wp2_with fail
  go_loopw [3] (fun u wr => u = .int .i64 0 ∧ w = wr) (fun _ _ => 0)
  case atStart => exact ⟨rfl, rfl⟩
  case round =>
    obtain ⟨rfl, rfl⟩ := hrel
    go_wp2_with fail
    go_loopw [4] (fun u wr => u = .int .i64 0 ∧ w = wr) (fun _ _ => 0)
    case atStart => exact ⟨rfl, rfl⟩
    case round =>
      obtain ⟨rfl, rfl⟩ := hrel
      go_wp2_with fail
      go_ret
      exact ⟨rfl, rfl⟩
set_option maxRecDepth 100000 in
theorem markSites_any (S : BS) (w : World) (h : Bk w S.g 43 (bookA S)) : Calls Tryz.prog 106 #[.pointer (some ⟨S.g, 0, none⟩)] w fun e w' => e = .returned (.tuple #[]) ∧ w = w' := by
  have c1 : w.cell? ⟨S.g, 60, none⟩ = some (.slice none 0 0) := h.cell 60
  have c2 : w.cell? ⟨S.g, 61, none⟩ = some (.slice none 0 0) := h.cell 61
  have c3 : w.cell? ⟨S.g, 63, none⟩ = some (.slice none 0 0) := h.cell 63
  have c4 : w.cell? ⟨S.g, 64, none⟩ = some (.slice none 0 0) := h.cell 64
  clear h
  go_enter Tryz.func106, Tryz.ntmps106
  go_wp2_with fail
  go_returns
  exact ⟨rfl, rfl⟩
set_option maxRecDepth 100000 in
theorem growSites_any (S : BS) (w : World) (h : Bk w S.g 43 (bookA S)) : Calls Tryz.prog 119 #[.pointer (some ⟨S.g, 0, none⟩)] w fun e w' => e = .returned (.tuple #[]) ∧ Bk w' S.g 43 (bookA S) ∧ Fr [S.g] w w' := by
  have H := Lib.hid h
  have c1 : w.cell? ⟨S.g, 62, none⟩ = some (.slice none 0 0) := h.cell 62
  have f1 := h.free 62
  have c2 : w.cell? ⟨S.g, 65, none⟩ = some (.slice none 0 0) := h.cell 65
  have f2 := h.free 65
  clear h
  go_enter Tryz.func119, Tryz.ntmps119
  go_wp2_with fail
  go_loopw [2] (fun u wr => u = .int .i64 0 ∧ w = wr) (fun _ _ => 0)
  case atStart => exact ⟨rfl, rfl⟩
  case round =>
    obtain ⟨rfl, rfl⟩ := hrel
    go_wp2_with fail
    go_returns
    exact ⟨rfl, (H.out.put 62 (.slice none 0 0)).put 65 (.slice none 0 0), ((Fr.refl _ _).setCell (.inl (by simp)) _).setCell (.inl (by simp)) _⟩
set_option maxRecDepth 100000 in
theorem holdSites_any (S : BS) (w : World) (h : Bk w S.g 43 (bookA S)) : Calls Tryz.prog 37 #[.pointer (some ⟨S.g, 0, none⟩)] w fun e w' => e = .returned (.bool true) ∧ w = w' := by
  have c1 : w.cell? ⟨S.g, 58, none⟩ = some (.slice none 0 0) := h.cell 58
  have c2 : w.cell? ⟨S.g, 60, none⟩ = some (.slice none 0 0) := h.cell 60
  clear h
  go_enter Tryz.func37, Tryz.ntmps37
  go_wp2_with fail
  go_loopw [3] (fun u wr => u = .int .i64 0 ∧ w = wr) (fun _ _ => 0)
  case atStart => exact ⟨rfl, rfl⟩
  case round =>
    obtain ⟨rfl, rfl⟩ := hrel
    go_wp2_with fail
    go_loopw [4] (fun u wr => u = .int .i64 0 ∧ w = wr) (fun _ _ => 0)
    case atStart => exact ⟨rfl, rfl⟩
    case round =>
      obtain ⟨rfl, rfl⟩ := hrel
      go_wp2_with fail
      go_ret
      exact ⟨rfl, rfl⟩
set_option maxRecDepth 100000 in
theorem markGrowths_any (S : BS) (w : World) (h : Bk w S.g 43 (bookA S)) : Calls Tryz.prog 107 #[.pointer (some ⟨S.g, 0, none⟩)] w fun e w' => e = .returned (.tuple #[]) ∧ w = w' := by
  have c1 : w.cell? ⟨S.g, 69, none⟩ = some (.slice none 0 0) := h.cell 69
  have c2 : w.cell? ⟨S.g, 70, none⟩ = some (.slice none 0 0) := h.cell 70
  have c3 : w.cell? ⟨S.g, 72, none⟩ = some (.slice none 0 0) := h.cell 72
  have c4 : w.cell? ⟨S.g, 73, none⟩ = some (.slice none 0 0) := h.cell 73
  clear h
  go_enter Tryz.func107, Tryz.ntmps107
  go_wp2_with fail
  go_returns
  exact ⟨rfl, rfl⟩
set_option maxRecDepth 100000 in
theorem growGrowths_any (S : BS) (w : World) (h : Bk w S.g 43 (bookA S)) : Calls Tryz.prog 120 #[.pointer (some ⟨S.g, 0, none⟩)] w fun e w' => e = .returned (.tuple #[]) ∧ Bk w' S.g 43 (bookA S) ∧ Fr [S.g] w w' := by
  have H := Lib.hid h
  have c1 : w.cell? ⟨S.g, 71, none⟩ = some (.slice none 0 0) := h.cell 71
  have f1 := h.free 71
  have c2 : w.cell? ⟨S.g, 74, none⟩ = some (.slice none 0 0) := h.cell 74
  have f2 := h.free 74
  clear h
  go_enter Tryz.func120, Tryz.ntmps120
  go_wp2_with fail
  go_loopw [2] (fun u wr => u = .int .i64 0 ∧ w = wr) (fun _ _ => 0)
  case atStart => exact ⟨rfl, rfl⟩
  case round =>
    obtain ⟨rfl, rfl⟩ := hrel
    go_wp2_with fail
    go_returns
    exact ⟨rfl, (H.out.put 71 (.slice none 0 0)).put 74 (.slice none 0 0), ((Fr.refl _ _).setCell (.inl (by simp)) _).setCell (.inl (by simp)) _⟩
set_option maxRecDepth 100000 in
theorem holdGrowths_any (S : BS) (w : World) (h : Bk w S.g 43 (bookA S)) : Calls Tryz.prog 38 #[.pointer (some ⟨S.g, 0, none⟩)] w fun e w' => e = .returned (.bool true) ∧ w = w' := by
  have c1 : w.cell? ⟨S.g, 67, none⟩ = some (.slice none 0 0) := h.cell 67
  have c2 : w.cell? ⟨S.g, 69, none⟩ = some (.slice none 0 0) := h.cell 69
  clear h
  go_enter Tryz.func38, Tryz.ntmps38
  go_wp2_with fail
  go_loopw [3] (fun u wr => u = .int .i64 0 ∧ w = wr) (fun _ _ => 0)
  case atStart => exact ⟨rfl, rfl⟩
  case round =>
    obtain ⟨rfl, rfl⟩ := hrel
    go_wp2_with fail
    go_loopw [4] (fun u wr => u = .int .i64 0 ∧ w = wr) (fun _ _ => 0)
    case atStart => exact ⟨rfl, rfl⟩
    case round =>
      obtain ⟨rfl, rfl⟩ := hrel
      go_wp2_with fail
      go_ret
      exact ⟨rfl, rfl⟩
set_option maxRecDepth 100000 in
theorem markOps_any (S : BS) (w : World) (h : Bk w S.g 43 (bookA S)) : Calls Tryz.prog 108 #[.pointer (some ⟨S.g, 0, none⟩)] w fun e w' => e = .returned (.tuple #[]) ∧ w = w' := by
  have c1 : w.cell? ⟨S.g, 78, none⟩ = some (.slice none 0 0) := h.cell 78
  have c2 : w.cell? ⟨S.g, 79, none⟩ = some (.slice none 0 0) := h.cell 79
  have c3 : w.cell? ⟨S.g, 81, none⟩ = some (.slice none 0 0) := h.cell 81
  have c4 : w.cell? ⟨S.g, 82, none⟩ = some (.slice none 0 0) := h.cell 82
  clear h
  go_enter Tryz.func108, Tryz.ntmps108
  go_wp2_with fail
  go_returns
  exact ⟨rfl, rfl⟩
set_option maxRecDepth 100000 in
theorem growOps_any (S : BS) (w : World) (h : Bk w S.g 43 (bookA S)) : Calls Tryz.prog 121 #[.pointer (some ⟨S.g, 0, none⟩)] w fun e w' => e = .returned (.tuple #[]) ∧ Bk w' S.g 43 (bookA S) ∧ Fr [S.g] w w' := by
  have H := Lib.hid h
  have c1 : w.cell? ⟨S.g, 80, none⟩ = some (.slice none 0 0) := h.cell 80
  have f1 := h.free 80
  have c2 : w.cell? ⟨S.g, 83, none⟩ = some (.slice none 0 0) := h.cell 83
  have f2 := h.free 83
  clear h
  go_enter Tryz.func121, Tryz.ntmps121
  go_wp2_with fail
  go_loopw [2] (fun u wr => u = .int .i64 0 ∧ w = wr) (fun _ _ => 0)
  case atStart => exact ⟨rfl, rfl⟩
  case round =>
    obtain ⟨rfl, rfl⟩ := hrel
    go_wp2_with fail
    go_returns
    exact ⟨rfl, (H.out.put 80 (.slice none 0 0)).put 83 (.slice none 0 0), ((Fr.refl _ _).setCell (.inl (by simp)) _).setCell (.inl (by simp)) _⟩
set_option maxRecDepth 100000 in
theorem holdOps_any (S : BS) (w : World) (h : Bk w S.g 43 (bookA S)) : Calls Tryz.prog 39 #[.pointer (some ⟨S.g, 0, none⟩)] w fun e w' => e = .returned (.bool true) ∧ w = w' := by
  have c1 : w.cell? ⟨S.g, 76, none⟩ = some (.slice none 0 0) := h.cell 76
  have c2 : w.cell? ⟨S.g, 78, none⟩ = some (.slice none 0 0) := h.cell 78
  clear h
  go_enter Tryz.func39, Tryz.ntmps39
  go_wp2_with fail
  go_loopw [3] (fun u wr => u = .int .i64 0 ∧ w = wr) (fun _ _ => 0)
  case atStart => exact ⟨rfl, rfl⟩
  case round =>
    obtain ⟨rfl, rfl⟩ := hrel
    go_wp2_with fail
    go_loopw [4] (fun u wr => u = .int .i64 0 ∧ w = wr) (fun _ _ => 0)
    case atStart => exact ⟨rfl, rfl⟩
    case round =>
      obtain ⟨rfl, rfl⟩ := hrel
      go_wp2_with fail
      go_ret
      exact ⟨rfl, rfl⟩
set_option maxRecDepth 100000 in
theorem markIntLists_any (S : BS) (w : World) (h : Bk w S.g 43 (bookA S)) : Calls Tryz.prog 109 #[.pointer (some ⟨S.g, 0, none⟩)] w fun e w' => e = .returned (.tuple #[]) ∧ w = w' := by
  have c1 : w.cell? ⟨S.g, 87, none⟩ = some (.slice none 0 0) := h.cell 87
  have c2 : w.cell? ⟨S.g, 88, none⟩ = some (.slice none 0 0) := h.cell 88
  have c3 : w.cell? ⟨S.g, 90, none⟩ = some (.slice none 0 0) := h.cell 90
  have c4 : w.cell? ⟨S.g, 91, none⟩ = some (.slice none 0 0) := h.cell 91
  clear h
  go_enter Tryz.func109, Tryz.ntmps109
  go_wp2_with fail
  go_returns
  exact ⟨rfl, rfl⟩
set_option maxRecDepth 100000 in
theorem growIntLists_any (S : BS) (w : World) (h : Bk w S.g 43 (bookA S)) : Calls Tryz.prog 122 #[.pointer (some ⟨S.g, 0, none⟩)] w fun e w' => e = .returned (.tuple #[]) ∧ Bk w' S.g 43 (bookA S) ∧ Fr [S.g] w w' := by
  have H := Lib.hid h
  have c1 : w.cell? ⟨S.g, 89, none⟩ = some (.slice none 0 0) := h.cell 89
  have f1 := h.free 89
  have c2 : w.cell? ⟨S.g, 92, none⟩ = some (.slice none 0 0) := h.cell 92
  have f2 := h.free 92
  clear h
  go_enter Tryz.func122, Tryz.ntmps122
  go_wp2_with fail
  go_loopw [2] (fun u wr => u = .int .i64 0 ∧ w = wr) (fun _ _ => 0)
  case atStart => exact ⟨rfl, rfl⟩
  case round =>
    obtain ⟨rfl, rfl⟩ := hrel
    go_wp2_with fail
    go_returns
    exact ⟨rfl, (H.out.put 89 (.slice none 0 0)).put 92 (.slice none 0 0), ((Fr.refl _ _).setCell (.inl (by simp)) _).setCell (.inl (by simp)) _⟩
set_option maxRecDepth 100000 in
theorem holdIntLists_any (S : BS) (w : World) (h : Bk w S.g 43 (bookA S)) : Calls Tryz.prog 40 #[.pointer (some ⟨S.g, 0, none⟩)] w fun e w' => e = .returned (.bool true) ∧ w = w' := by
  have c1 : w.cell? ⟨S.g, 85, none⟩ = some (.slice none 0 0) := h.cell 85
  have c2 : w.cell? ⟨S.g, 87, none⟩ = some (.slice none 0 0) := h.cell 87
  clear h
  go_enter Tryz.func40, Tryz.ntmps40
  go_wp2_with fail
  go_loopw [3] (fun u wr => u = .int .i64 0 ∧ w = wr) (fun _ _ => 0)
  case atStart => exact ⟨rfl, rfl⟩
  case round =>
    obtain ⟨rfl, rfl⟩ := hrel
    go_wp2_with fail
    go_loopw [4] (fun u wr => u = .int .i64 0 ∧ w = wr) (fun _ _ => 0)
    case atStart => exact ⟨rfl, rfl⟩
    case round =>
      obtain ⟨rfl, rfl⟩ := hrel
      go_wp2_with fail
      go_ret
      exact ⟨rfl, rfl⟩
set_option maxRecDepth 100000 in
theorem markWordLists_any (S : BS) (w : World) (h : Bk w S.g 43 (bookA S)) : Calls Tryz.prog 110 #[.pointer (some ⟨S.g, 0, none⟩)] w fun e w' => e = .returned (.tuple #[]) ∧ w = w' := by
  have c1 : w.cell? ⟨S.g, 96, none⟩ = some (.slice none 0 0) := h.cell 96
  have c2 : w.cell? ⟨S.g, 97, none⟩ = some (.slice none 0 0) := h.cell 97
  have c3 : w.cell? ⟨S.g, 99, none⟩ = some (.slice none 0 0) := h.cell 99
  have c4 : w.cell? ⟨S.g, 100, none⟩ = some (.slice none 0 0) := h.cell 100
  clear h
  go_enter Tryz.func110, Tryz.ntmps110
  go_wp2_with fail
  go_returns
  exact ⟨rfl, rfl⟩
set_option maxRecDepth 100000 in
theorem growWordLists_any (S : BS) (w : World) (h : Bk w S.g 43 (bookA S)) : Calls Tryz.prog 123 #[.pointer (some ⟨S.g, 0, none⟩)] w fun e w' => e = .returned (.tuple #[]) ∧ Bk w' S.g 43 (bookA S) ∧ Fr [S.g] w w' := by
  have H := Lib.hid h
  have c1 : w.cell? ⟨S.g, 98, none⟩ = some (.slice none 0 0) := h.cell 98
  have f1 := h.free 98
  have c2 : w.cell? ⟨S.g, 101, none⟩ = some (.slice none 0 0) := h.cell 101
  have f2 := h.free 101
  clear h
  go_enter Tryz.func123, Tryz.ntmps123
  go_wp2_with fail
  go_loopw [2] (fun u wr => u = .int .i64 0 ∧ w = wr) (fun _ _ => 0)
  case atStart => exact ⟨rfl, rfl⟩
  case round =>
    obtain ⟨rfl, rfl⟩ := hrel
    go_wp2_with fail
    go_returns
    exact ⟨rfl, (H.out.put 98 (.slice none 0 0)).put 101 (.slice none 0 0), ((Fr.refl _ _).setCell (.inl (by simp)) _).setCell (.inl (by simp)) _⟩
set_option maxRecDepth 100000 in
theorem holdWordLists_any (S : BS) (w : World) (h : Bk w S.g 43 (bookA S)) : Calls Tryz.prog 41 #[.pointer (some ⟨S.g, 0, none⟩)] w fun e w' => e = .returned (.bool true) ∧ w = w' := by
  have c1 : w.cell? ⟨S.g, 94, none⟩ = some (.slice none 0 0) := h.cell 94
  have c2 : w.cell? ⟨S.g, 96, none⟩ = some (.slice none 0 0) := h.cell 96
  clear h
  go_enter Tryz.func41, Tryz.ntmps41
  go_wp2_with fail
  go_loopw [3] (fun u wr => u = .int .i64 0 ∧ w = wr) (fun _ _ => 0)
  case atStart => exact ⟨rfl, rfl⟩
  case round =>
    obtain ⟨rfl, rfl⟩ := hrel
    go_wp2_with fail
    go_loopw [4] (fun u wr => u = .int .i64 0 ∧ w = wr) (fun _ _ => 0)
    case atStart => exact ⟨rfl, rfl⟩
    case round =>
      obtain ⟨rfl, rfl⟩ := hrel
      go_wp2_with fail
      go_ret
      exact ⟨rfl, rfl⟩
set_option maxRecDepth 100000 in
theorem markFrames_any (S : BS) (w : World) (h : Bk w S.g 43 (bookA S)) : Calls Tryz.prog 111 #[.pointer (some ⟨S.g, 0, none⟩)] w fun e w' => e = .returned (.tuple #[]) ∧ w = w' := by
  have c1 : w.cell? ⟨S.g, 105, none⟩ = some (.slice none 0 0) := h.cell 105
  have c2 : w.cell? ⟨S.g, 106, none⟩ = some (.slice none 0 0) := h.cell 106
  have c3 : w.cell? ⟨S.g, 108, none⟩ = some (.slice none 0 0) := h.cell 108
  have c4 : w.cell? ⟨S.g, 109, none⟩ = some (.slice none 0 0) := h.cell 109
  clear h
  go_enter Tryz.func111, Tryz.ntmps111
  go_wp2_with fail
  go_returns
  exact ⟨rfl, rfl⟩
set_option maxRecDepth 100000 in
theorem growFrames_any (S : BS) (w : World) (h : Bk w S.g 43 (bookA S)) : Calls Tryz.prog 124 #[.pointer (some ⟨S.g, 0, none⟩)] w fun e w' => e = .returned (.tuple #[]) ∧ Bk w' S.g 43 (bookA S) ∧ Fr [S.g] w w' := by
  have H := Lib.hid h
  have c1 : w.cell? ⟨S.g, 107, none⟩ = some (.slice none 0 0) := h.cell 107
  have f1 := h.free 107
  have c2 : w.cell? ⟨S.g, 110, none⟩ = some (.slice none 0 0) := h.cell 110
  have f2 := h.free 110
  clear h
  go_enter Tryz.func124, Tryz.ntmps124
  go_wp2_with fail
  go_loopw [2] (fun u wr => u = .int .i64 0 ∧ w = wr) (fun _ _ => 0)
  case atStart => exact ⟨rfl, rfl⟩
  case round =>
    obtain ⟨rfl, rfl⟩ := hrel
    go_wp2_with fail
    go_returns
    exact ⟨rfl, (H.out.put 107 (.slice none 0 0)).put 110 (.slice none 0 0), ((Fr.refl _ _).setCell (.inl (by simp)) _).setCell (.inl (by simp)) _⟩
set_option maxRecDepth 100000 in
theorem holdFrames_any (S : BS) (w : World) (h : Bk w S.g 43 (bookA S)) : Calls Tryz.prog 42 #[.pointer (some ⟨S.g, 0, none⟩)] w fun e w' => e = .returned (.bool true) ∧ w = w' := by
  have c1 : w.cell? ⟨S.g, 103, none⟩ = some (.slice none 0 0) := h.cell 103
  have c2 : w.cell? ⟨S.g, 105, none⟩ = some (.slice none 0 0) := h.cell 105
  clear h
  go_enter Tryz.func42, Tryz.ntmps42
  go_wp2_with fail
  go_loopw [3] (fun u wr => u = .int .i64 0 ∧ w = wr) (fun _ _ => 0)
  case atStart => exact ⟨rfl, rfl⟩
  case round =>
    obtain ⟨rfl, rfl⟩ := hrel
    go_wp2_with fail
    go_loopw [4] (fun u wr => u = .int .i64 0 ∧ w = wr) (fun _ _ => 0)
    case atStart => exact ⟨rfl, rfl⟩
    case round =>
      obtain ⟨rfl, rfl⟩ := hrel
      go_wp2_with fail
      go_ret
      exact ⟨rfl, rfl⟩
set_option maxRecDepth 100000 in
theorem markObjects_any (S : BS) (w : World) (h : Bk w S.g 43 (bookA S)) : Calls Tryz.prog 112 #[.pointer (some ⟨S.g, 0, none⟩)] w fun e w' => e = .returned (.tuple #[]) ∧ w = w' := by
  have c1 : w.cell? ⟨S.g, 114, none⟩ = some (.slice none 0 0) := h.cell 114
  have c2 : w.cell? ⟨S.g, 115, none⟩ = some (.slice none 0 0) := h.cell 115
  have c3 : w.cell? ⟨S.g, 117, none⟩ = some (.slice none 0 0) := h.cell 117
  have c4 : w.cell? ⟨S.g, 118, none⟩ = some (.slice none 0 0) := h.cell 118
  clear h
  go_enter Tryz.func112, Tryz.ntmps112
  go_wp2_with fail
  go_returns
  exact ⟨rfl, rfl⟩
set_option maxRecDepth 100000 in
theorem growObjects_any (S : BS) (w : World) (h : Bk w S.g 43 (bookA S)) : Calls Tryz.prog 125 #[.pointer (some ⟨S.g, 0, none⟩)] w fun e w' => e = .returned (.tuple #[]) ∧ Bk w' S.g 43 (bookA S) ∧ Fr [S.g] w w' := by
  have H := Lib.hid h
  have c1 : w.cell? ⟨S.g, 116, none⟩ = some (.slice none 0 0) := h.cell 116
  have f1 := h.free 116
  have c2 : w.cell? ⟨S.g, 119, none⟩ = some (.slice none 0 0) := h.cell 119
  have f2 := h.free 119
  clear h
  go_enter Tryz.func125, Tryz.ntmps125
  go_wp2_with fail
  go_loopw [2] (fun u wr => u = .int .i64 0 ∧ w = wr) (fun _ _ => 0)
  case atStart => exact ⟨rfl, rfl⟩
  case round =>
    obtain ⟨rfl, rfl⟩ := hrel
    go_wp2_with fail
    go_returns
    exact ⟨rfl, (H.out.put 116 (.slice none 0 0)).put 119 (.slice none 0 0), ((Fr.refl _ _).setCell (.inl (by simp)) _).setCell (.inl (by simp)) _⟩
set_option maxRecDepth 100000 in
theorem holdObjects_any (S : BS) (w : World) (h : Bk w S.g 43 (bookA S)) : Calls Tryz.prog 43 #[.pointer (some ⟨S.g, 0, none⟩)] w fun e w' => e = .returned (.bool true) ∧ w = w' := by
  have c1 : w.cell? ⟨S.g, 112, none⟩ = some (.slice none 0 0) := h.cell 112
  have c2 : w.cell? ⟨S.g, 114, none⟩ = some (.slice none 0 0) := h.cell 114
  clear h
  go_enter Tryz.func43, Tryz.ntmps43
  go_wp2_with fail
  go_loopw [3] (fun u wr => u = .int .i64 0 ∧ w = wr) (fun _ _ => 0)
  case atStart => exact ⟨rfl, rfl⟩
  case round =>
    obtain ⟨rfl, rfl⟩ := hrel
    go_wp2_with fail
    go_loopw [4] (fun u wr => u = .int .i64 0 ∧ w = wr) (fun _ _ => 0)
    case atStart => exact ⟨rfl, rfl⟩
    case round =>
      obtain ⟨rfl, rfl⟩ := hrel
      go_wp2_with fail
      go_ret
      exact ⟨rfl, rfl⟩
end Go.Proofs.YtdcppdgnekhcgaaGreatDoor
