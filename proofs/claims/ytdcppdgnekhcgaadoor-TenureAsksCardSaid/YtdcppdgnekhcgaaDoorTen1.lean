/-
  What New and Threshold of the program's and the document's tenure come to, over the memory that they make.
-/
import Derived.Test.YtdcppdgnekhcgaaDoorRows
import Derived.Test.YtdcppdgnekhcgaaDoorBase
import Derived.Deep.QuietTactic
import Derived.BigQuiet
namespace Go.Proofs.YtdcppdgnekhcgaaDoor
open Go.RowKit

/-- The program's Tenure in its block: what is wanted, the greatest threshold, the sixteen last, how many. -/
def tcells (wanted most : Int) (p : Nat → Int) (many : Int) : Array Value :=
  #[.int .i64 wanted, .int .i64 most, .int .i64 (p 0), .int .i64 (p 1), .int .i64 (p 2), .int .i64 (p 3), .int .i64 (p 4), .int .i64 (p 5), .int .i64 (p 6), .int .i64 (p 7), .int .i64 (p 8),
    .int .i64 (p 9), .int .i64 (p 10), .int .i64 (p 11), .int .i64 (p 12), .int .i64 (p 13), .int .i64 (p 14), .int .i64 (p 15), .int .i64 many]

def past0 (most : Int) (i : Nat) : Int := if i = 15 then most else 0

/-- New answers a Tenure in a new block. -/
def NewOk (wanted most : Int) (w : World) (e : Ending) (w' : World) : Prop :=
  ∃ g, e = .returned (.tuple #[.pointer (some ⟨g, 0, none⟩), .int .i64 0]) ∧ w.heap.size ≤ g ∧ Bk w' g 63 (tcells wanted most (past0 most) 1) ∧ Fr [] w w'

theorem mul_le {s t : Int} (h1 : 1 ≤ s) (h2 : s ≤ 65536) (h3 : 1 ≤ t) (h4 : t ≤ 100) : 0 ≤ s * t ∧ s * t ≤ 6553600 := by
  constructor
  · exact Int.mul_nonneg (by omega) (by omega)
  · exact Int.le_trans (Int.mul_le_mul_of_nonneg_left h4 (by omega)) (by omega)

theorem new_ok (s t m : Int) (w : World) (h1 : 1 ≤ s) (h2 : s ≤ 65536) (h3 : 1 ≤ t) (h4 : t ≤ 100) (h5 : 1 ≤ m) (h6 : m ≤ 15) :
    Calls Tryd.prog 16 #[.int .i64 s, .int .i64 t, .int .i64 m] w (NewOk (s * t / 100) m w) := by
  obtain ⟨hm1, hm2⟩ := mul_le h1 h2 h3 h4
  go_enter Tryd.func16, Tryd.ntmps16
  go_wp2
  go_ret2
  exact ⟨w.heap.size, rfl, Nat.le_refl _, Bk.new w _ _, (Fr.refl _ _).alloc _⟩

/-- The document's Tenure in its block. -/
def rcells (wanted most : Int) (v : Value) : Array Value := #[.int .i64 wanted, .int .i64 most, v]
def ints (l : List Int) : List Value := l.map (Value.int .i64)

/-- The document's Tenure: its block g, and the row b of all thresholds. -/
def RIs (w : World) (g b : Nat) (wanted most : Int) (l : List Int) : Prop :=
  ∃ cap, Bk w g 65 (rcells wanted most (.slice (some ⟨b, 0, none⟩) l.length cap)) ∧ w.ownsRow 0 3 1 (.slice (some ⟨b, 0, none⟩) l.length cap) l.length (ints l)

theorem own_lt {w : World} {base b : Nat} {e : TypeId} {size n cap : Nat} {xs : List Value} (h : w.ownsRow base e size (.slice (some ⟨b, 0, none⟩) n cap) n xs) :
    ∃ cur, w.heap[b]? = some (.cells cur e (0, 0)) ∧ n ≤ cap ∧ cap ≤ maxLen ∧ cur.size = cap * size ∧ cur.toList.take (n * size) = xs := by
  rcases h.2 with ⟨h0, _⟩ | ⟨b', cap', cur, hq, _, h1, h2, h3, h4, h5⟩
  · cases h0
  · simp only [Value.slice.injEq, Option.some.injEq, Addr.mk.injEq] at hq
    obtain ⟨⟨rfl, -, -⟩, -, rfl⟩ := hq
    exact ⟨cur, h1, h2, h3, h4, h5⟩
theorem RIs.ne {w : World} {g b : Nat} {wanted most : Int} {l : List Int} (h : RIs w g b wanted most l) : g ≠ b := by
  rintro rfl
  obtain ⟨cap, hb, ho⟩ := h
  obtain ⟨cur, hc, _⟩ := own_lt ho
  unfold Bk at hb
  rw [hb] at hc
  injection hc with hc
  injection hc with _ ht
  exact absurd ht (by decide)
theorem RIs.lt {w : World} {g b : Nat} {wanted most : Int} {l : List Int} (h : RIs w g b wanted most l) : g < w.heap.size ∧ b < w.heap.size := by
  obtain ⟨cap, hb, ho⟩ := h
  obtain ⟨cur, hc, _⟩ := own_lt ho
  exact ⟨hb.lt, (Array.getElem?_eq_some_iff.1 hc).1⟩
theorem RIs.fr {w w' : World} {g b : Nat} {wanted most : Int} {l : List Int} {S : List Nat} (h : RIs w g b wanted most l) (hf : Fr S w w') (h1 : g ∉ S) (h2 : b ∉ S) : RIs w' g b wanted most l := by
  obtain ⟨cap, hb, ho⟩ := h
  exact ⟨cap, hb.fr hf h1, own_fr ho hf (fun k hk => by
    have : k = b := by simpa [Value.ownBlock] using hk.symm
    subst this
    exact h2)⟩

def RNewOk (wanted most : Int) (w : World) (e : Ending) (w' : World) : Prop :=
  ∃ g b, e = .returned (.tuple #[.pointer (some ⟨g, 0, none⟩), .int .i64 0]) ∧ w.heap.size ≤ g ∧ w.heap.size ≤ b ∧ RIs w' g b wanted most [most] ∧ Fr [] w w'

theorem rnew_ok (s t m : Int) (w : World) (h1 : 1 ≤ s) (h2 : s ≤ 65536) (h3 : 1 ≤ t) (h4 : t ≤ 100) (h5 : 1 ≤ m) (h6 : m ≤ 15) :
    Calls Tryd.prog 17 #[.int .i64 s, .int .i64 t, .int .i64 m] w (RNewOk (s * t / 100) m w) := by
  obtain ⟨hm1, hm2⟩ := mul_le h1 h2 h3 h4
  go_enter Tryd.func17, Tryd.ntmps17
  go_wp2
  go_ret2
  exact ⟨w.heap.size + 1, w.heap.size, rfl, by omega, Nat.le_refl _, ⟨1, Bk.new_at _ _ _ _ (by simp), (World.ownsRow_lit w #[.int .i64 m] 1 (Nat.zero_le _) (by simp [maxLen]) rfl).alloc _⟩, ((Fr.refl _ _).alloc _).alloc _⟩

def NoneAt (n : Int) (w : World) (e : Ending) (w' : World) : Prop := e = .returned (.tuple #[.pointer none, .int .i64 n]) ∧ w = w'

theorem new_no (s t m : Int) (w : World) (h : s < 1 ∨ 65536 < s ∨ t < 1 ∨ 100 < t ∨ m < 1 ∨ 15 < m) :
    Calls Tryd.prog 16 #[.int .i64 s, .int .i64 t, .int .i64 m] w (NoneAt 70 w) := by
  have H := Lib.hid h
  clear h
  go_enter Tryd.func16, Tryd.ntmps16
  go_wp2
  all_goals first
    | (go_ret2; exact ⟨rfl, rfl⟩)
    | (exfalso; have := H.out; omega)

theorem rnew_no (s t m : Int) (w : World) (h : s < 1 ∨ 65536 < s ∨ t < 1 ∨ 100 < t ∨ m < 1 ∨ 15 < m) :
    Calls Tryd.prog 17 #[.int .i64 s, .int .i64 t, .int .i64 m] w (NoneAt 70 w) := by
  have H := Lib.hid h
  clear h
  go_enter Tryd.func17, Tryd.ntmps17
  go_wp2
  all_goals first
    | (go_ret2; exact ⟨rfl, rfl⟩)
    | (exfalso; have := H.out; omega)

/-- num(e): the number. -/
theorem num_any (n : Int) (w : World) : Calls Tryd.prog 18 #[.int .i64 n] w fun e w' => e = .returned (.int .i64 n) ∧ w = w' := by
  go_enter Tryd.func18, Tryd.ntmps18
  go_wp2
  go_ret
  exact ⟨rfl, rfl⟩

theorem threshold_any (g : Nat) (wanted most : Int) (p : Nat → Int) (many : Int) (w : World) (h : Bk w g 63 (tcells wanted most p many)) :
    Calls Tryd.prog 5 #[.pointer (some ⟨g, 0, none⟩)] w fun e w' => e = .returned (.int .i64 (p 15)) ∧ w = w' := by
  have h15 : w.cell? ⟨g, 17, none⟩ = some (.int .i64 (p 15)) := h.cell 17
  have H := Lib.hid h
  clear h
  go_enter Tryd.func5, Tryd.ntmps5
  go_wp2
  go_ret
  exact ⟨rfl, rfl⟩

theorem rthreshold_any (g b : Nat) (wanted most : Int) (l : List Int) (x : Int) (w : World) (h : RIs w g b wanted most (l ++ [x])) :
    Calls Tryd.prog 7 #[.pointer (some ⟨g, 0, none⟩)] w fun e w' => e = .returned (.int .i64 x) ∧ Fr [] w w' := by
  obtain ⟨cap, hb, h3⟩ := h
  have hl : (l ++ [x]).length = l.length + 1 := by simp
  rw [hl] at h3 hb
  obtain ⟨cur, _, hc1, hc2, _⟩ := own_lt h3
  have hc := h3.cellAt l.length (by omega)
  have hc' : w.cell? ⟨b, l.length, none⟩ = some (.int .i64 x) := by rw [hc]; simp [ints]
  have hv : w.cell? ⟨g, 2, none⟩ = some (.slice (some ⟨b, 0, none⟩) (l.length + 1) cap) := hb.cell 2
  unfold maxLen at hc2
  clear hc hl
  have H3 := Lib.hid h3
  have Hb := Lib.hid hb
  clear h3 hb
  go_enter Tryd.func7, Tryd.ntmps7
  go_wp2
  go_quiet (fail)
  go_wp2
  go_ret
  exact ⟨rfl, (Fr.refl _ _).drewN _⟩
end Go.Proofs.YtdcppdgnekhcgaaDoor
