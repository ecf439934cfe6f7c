/-
  Bag: the desk's other things; the desk while it is made.
-/
import Derived.Test.YtdjaalkbpdmdgaaGreatBgT6
namespace Go.Proofs.YtdjaalkbpdmdgaaGreat
open Go.RowKit
set_option linter.unusedVariables false

/-- A queue of texts. -/
structure Sx (t : TypeId) (b0 : Nat) (w : World) (g : Nat) (most : Int) (v : Value) (l : List ByteArray) : Prop where
  B : Bk w g t #[.int .i64 most, v]
  L : Lst w b0 9 1 v l.length (sV l)
  b : b0 ≤ g
theorem Sx.fr {t : TypeId} {b0 : Nat} {w w' : World} {g : Nat} {most : Int} {v : Value} {l : List ByteArray} {S : List Nat} (h : Sx t b0 w g most v l) (hf : Fr S w w') (hS : ∀ x ∈ skT g v, x ∉ S) : Sx t b0 w' g most v l :=
  ⟨h.B.fr hf (hS g (by simp [skT])), h.L.fr hf (fun k hk => hS k (by simp [skT, hk])), h.b⟩
theorem Sx.lt {t : TypeId} {b0 : Nat} {w : World} {g : Nat} {most : Int} {v : Value} {l : List ByteArray} (h : Sx t b0 w g most v l) : ∀ x ∈ skT g v, b0 ≤ x ∧ x < w.heap.size := by
  intro x hx
  simp only [skT, List.mem_cons, Option.mem_toList] at hx
  rcases hx with rfl | hx
  · exact ⟨h.b, h.B.lt⟩
  · exact h.L.lt x hx
def thSx (t : TypeId) (b0 g : Nat) (most : Int) (v : Value) (l : List ByteArray) : Th b0 := ⟨skT g v, fun w => Sx t b0 w g most v l, fun h hf hS => h.fr hf hS, fun h => h.lt⟩
/-- Tables. -/
theorem TbN.lt2 {b0 : Nat} {w : World} {g : Nat} {v : Value} {l : List PN} (h : TbN b0 w g v l) : ∀ x ∈ skT g v, b0 ≤ x ∧ x < w.heap.size := by
  intro x hx
  simp only [skT, List.mem_cons, Option.mem_toList] at hx
  rcases hx with rfl | hx
  · exact ⟨h.b, h.B.lt⟩
  · exact h.L.lt x hx
theorem TbT.lt2 {b0 : Nat} {w : World} {g : Nat} {v : Value} {l : List PT} (h : TbT b0 w g v l) : ∀ x ∈ skT g v, b0 ≤ x ∧ x < w.heap.size := by
  intro x hx
  simp only [skT, List.mem_cons, Option.mem_toList] at hx
  rcases hx with rfl | hx
  · exact ⟨h.b, h.B.lt⟩
  · exact h.L.lt x hx
def thTbN (b0 g : Nat) (v : Value) (l : List PN) : Th b0 := ⟨skT g v, fun w => TbN b0 w g v l, fun h hf hS => h.fr hf (hS g (by simp [skT])) (fun k hk => hS k (by simp [skT, hk])), fun h => h.lt2⟩
def thTbT (b0 g : Nat) (v : Value) (l : List PT) : Th b0 := ⟨skT g v, fun w => TbT b0 w g v l, fun h hf hS => h.fr hf (hS g (by simp [skT])) (fun k hk => hS k (by simp [skT, hk])), fun h => h.lt2⟩
/-- The document's tables: keys and values, each in a list of its own. -/
structure Rw (t kt vt : TypeId) (b0 : Nat) (w : World) (g : Nat) (kv vv : Value) (ks vs : List Value) : Prop where
  B : Bk w g t #[kv, vv]
  K : Lst w b0 kt 1 kv ks.length ks
  V : Lst w b0 vt 1 vv vs.length vs
  b : b0 ≤ g
def rwT (g : Nat) (kv vv : Value) : List Nat := g :: (kv.ownBlock.toList ++ vv.ownBlock.toList)
theorem Rw.fr {t kt vt : TypeId} {b0 : Nat} {w w' : World} {g : Nat} {kv vv : Value} {ks vs : List Value} {S : List Nat} (h : Rw t kt vt b0 w g kv vv ks vs) (hf : Fr S w w') (hS : ∀ x ∈ rwT g kv vv, x ∉ S) : Rw t kt vt b0 w' g kv vv ks vs :=
  ⟨h.B.fr hf (hS g (by simp [rwT])), h.K.fr hf (fun k hk => hS k (by simp [rwT, hk])), h.V.fr hf (fun k hk => hS k (by simp [rwT, hk])), h.b⟩
theorem Rw.lt {t kt vt : TypeId} {b0 : Nat} {w : World} {g : Nat} {kv vv : Value} {ks vs : List Value} (h : Rw t kt vt b0 w g kv vv ks vs) : ∀ x ∈ rwT g kv vv, b0 ≤ x ∧ x < w.heap.size := by
  intro x hx
  simp only [rwT, List.mem_cons, List.mem_append, Option.mem_toList] at hx
  rcases hx with rfl | hx | hx
  · exact ⟨h.b, h.B.lt⟩
  · exact h.K.lt x hx
  · exact h.V.lt x hx
def thRw (t kt vt : TypeId) (b0 g : Nat) (kv vv : Value) (ks vs : List Value) : Th b0 := ⟨rwT g kv vv, fun w => Rw t kt vt b0 w g kv vv ks vs, fun h hf hS => h.fr hf hS, fun h => h.lt⟩

def newXP (b0 : Nat) (most : Int) (w : World) (e : Ending) (w' : World) : Prop :=
  ∃ g, e = .returned (.tuple #[.pointer (some ⟨g, 0, none⟩), .int .i64 0]) ∧ Sx 124 b0 w' g most (.slice none 0 0) [] ∧ Fr [] w w' ∧ w.heap.size ≤ g
theorem textq_new (b0 : Nat) (most : Int) (w : World) (h : 0 ≤ most) (hb : b0 ≤ w.heap.size) : Calls Tryz.prog 15 #[.int .i64 most] w (newXP b0 most w) := by
  have d0 : decide (most < 0) = false := decide_eq_false (by omega)
  have H : Hid (Calls Tryz.prog 27 #[.int .i64 most] w (newXP b0 most w)) := by
    show Calls Tryz.prog 27 #[.int .i64 most] w (newXP b0 most w)
    go_enter Tryz.func27, Tryz.ntmps27
    go_wp2_with fail
    go_ret2
    exact ⟨w.heap.size, rfl, ⟨Bk.new _ _ _, Lst.nil _ _ _ _, hb⟩, (Fr.refl _ _).alloc _, Nat.le_refl _⟩
  go_enter Tryz.func15, Tryz.ntmps15
  go_wp2_with fail
  refine (Calls.mono H.out ?_)
  rintro e w' ⟨g, rfl, h1, h2, h3⟩
  go_wp2_with fail
  go_ret2
  exact ⟨g, rfl, h1, h2, h3⟩
theorem textq_bad (most : Int) (w : World) (h : most < 0) : Calls Tryz.prog 15 #[.int .i64 most] w fun e w' => e = .returned (.tuple #[.pointer none, .int .i64 10]) ∧ w = w' := by
  have d0 : decide (most < 0) = true := decide_eq_true h
  have H : Hid (Calls Tryz.prog 27 #[.int .i64 most] w fun e w' => e = .returned (.tuple #[.pointer none, .int .i64 10]) ∧ w = w') := by
    show Calls Tryz.prog 27 #[.int .i64 most] w fun e w' => e = .returned (.tuple #[.pointer none, .int .i64 10]) ∧ w = w'
    go_enter Tryz.func27, Tryz.ntmps27
    go_wp2_with fail
    go_ret2
    exact ⟨rfl, rfl⟩
  go_enter Tryz.func15, Tryz.ntmps15
  go_wp2_with fail
  refine (Calls.mono H.out ?_)
  rintro e w' ⟨rfl, rfl⟩
  go_wp2_with fail
  go_ret2
  exact ⟨rfl, rfl⟩

/-- The desk's cells. -/
def deskA (f : Nat → Value) : Array Value := ((List.range 20).map f).toArray
def upd (f : Nat → Value) (x : Nat) (v : Value) : Nat → Value := fun y => if y = x then v else f y
theorem deskA_at (f : Nat → Value) {x : Nat} (hx : x < 20) : (deskA f)[x]? = some (f x) := by
  unfold deskA
  simp [hx]
theorem deskA_set (f : Nat → Value) (x : Nat) (v : Value) : (deskA f).setIfInBounds x v = deskA (upd f x v) := by
  unfold deskA upd
  apply Array.ext_getElem?
  intro i
  rw [Array.getElem?_setIfInBounds]
  simp only [List.getElem?_toArray, List.getElem?_map, List.size_toArray, List.length_map, List.length_range]
  by_cases h1 : x = i
  · subst h1
    by_cases h2 : x < 20
    · simp [h2]
    · simp [h2]
  · rw [if_neg h1]
    by_cases h2 : i < 20
    · simp [h2, Ne.symm h1]
    · rw [List.getElem?_eq_none (by simp; omega)]
      rfl
def mostA (m : Nat → Int) : Array Value := #[.int .i64 (m 0), .int .i64 (m 1)]
theorem mostA_at (m : Nat → Int) {i : Nat} (hi : i < 2) : (mostA m)[i]? = some (.int .i64 (m i)) := by
  have : i = 0 ∨ i = 1 := by omega
  rcases this with rfl | rfl <;> rfl
theorem mostA_set (m : Nat → Int) {i : Nat} (hi : i < 2) (z : Int) : (mostA m).setIfInBounds i (.int .i64 z) = mostA (fun j => if j = i then z else m j) := by
  have : i = 0 ∨ i = 1 := by omega
  rcases this with rfl | rfl <;> rfl
/-- While the desk is made: what was there (Ts), what has come in this round (L). -/
def BJ (w0 : World) (gd gm : Nat) (Ts L : List (Th w0.heap.size)) (f : Nat → Value) (m : Nat → Int) (w : World) : Prop :=
  ∃ T : List (Th w0.heap.size), Sg w0 T w ∧ T.length = Ts.length + L.length ∧ (∀ j, 2 ≤ j → j < Ts.length → T[j]? = Ts[j]?) ∧ T[0]? = some (thBox w0.heap.size gd 52 (deskA f)) ∧ T[1]? = some (thBox w0.heap.size gm 53 (mostA m)) ∧ ∀ (j : Nat) (t : Th w0.heap.size), L[j]? = some t → T[Ts.length + j]? = some t
section
variable {w0 w w' : World} {gd gm : Nat} {Ts L : List (Th w0.heap.size)} {f : Nat → Value} {m : Nat → Int}
theorem BJ.nil (h : BJ w0 gd gm Ts L f m w) (hf : Fr [] w w') : BJ w0 gd gm Ts L f m w' := by
  obtain ⟨T, h1, h2⟩ := h
  exact ⟨T, h1.nil hf, h2⟩
theorem BJ.fr0 (h : BJ w0 gd gm Ts L f m w) : Fr [] w0 w := by
  obtain ⟨T, h1, _⟩ := h
  exact h1.fr
theorem BJ.push {t : Th w0.heap.size} (h : BJ w0 gd gm Ts L f m w) (h2s : 2 ≤ Ts.length) (hf : Fr [] w w') (hP : t.P w') (hn : ∀ x ∈ t.F, w.heap.size ≤ x) : BJ w0 gd gm Ts (L ++ [t]) f m w' := by
  obtain ⟨T, h1, h2, h3, h4, h5, h6⟩ := h
  refine ⟨T ++ [t], h1.push hf hP hn, by simp [h2]; omega, fun j hj hl => ?_, ?_, ?_, fun j u hu => ?_⟩
  · rw [List.getElem?_append_left (by omega)]
    exact h3 j hj hl
  · rw [List.getElem?_append_left (by omega)]
    exact h4
  · rw [List.getElem?_append_left (by omega)]
    exact h5
  · by_cases hj : j < L.length
    · rw [List.getElem?_append_left hj] at hu
      rw [List.getElem?_append_left (by omega)]
      exact h6 j u hu
    · rw [List.getElem?_append_right (by omega)] at hu
      have hj2 : j = L.length := by
        have := (List.getElem?_eq_some_iff.1 hu).1
        simp at this
        omega
      subst hj2
      rw [List.getElem?_append_right (by omega), h2]
      simpa using hu
theorem BJ.desk (h : BJ w0 gd gm Ts L f m w) (h2s : 2 ≤ Ts.length) (x : Nat) (v : Value) : BJ w0 gd gm Ts L (upd f x v) m (w.setCell ⟨gd, x, none⟩ v) := by
  obtain ⟨T, h1, h2, h3, h4, h5, h6⟩ := h
  have hb := h1.bk h4
  refine ⟨T.set 0 (thBox w0.heap.size gd 52 (deskA (upd f x v))), h1.set h4 ((Fr.refl _ _).setCell (by simp [thBox]) _) ⟨by rw [← deskA_set]; exact hb.put x v, (h1.ok 0 _ h4).2⟩ (fun y hy => .inl hy), by simp [h2], fun j hj hl => ?_, ?_, ?_, fun j u hu => ?_⟩
  · rw [List.getElem?_set_ne (by omega)]
    exact h3 j hj hl
  · rw [List.getElem?_set_self (by omega)]
  · rw [List.getElem?_set_ne (by omega)]
    exact h5
  · rw [List.getElem?_set_ne (by omega)]
    exact h6 j u hu
theorem BJ.most (h : BJ w0 gd gm Ts L f m w) (h2s : 2 ≤ Ts.length) {i : Nat} (hi : i < 2) (z : Int) : BJ w0 gd gm Ts L f (fun j => if j = i then z else m j) (w.setCell ⟨gm, i, none⟩ (.int .i64 z)) := by
  obtain ⟨T, h1, h2, h3, h4, h5, h6⟩ := h
  have hb := h1.bk h5
  refine ⟨T.set 1 (thBox w0.heap.size gm 53 (mostA (fun j => if j = i then z else m j))), h1.set h5 ((Fr.refl _ _).setCell (by simp [thBox]) _) ⟨by rw [← mostA_set m hi]; exact hb.put i _, (h1.ok 1 _ h5).2⟩ (fun y hy => .inl hy), by simp [h2], fun j hj hl => ?_, ?_, ?_, fun j u hu => ?_⟩
  · rw [List.getElem?_set_ne (by omega)]
    exact h3 j hj hl
  · rw [List.getElem?_set_ne (by omega)]
    exact h4
  · rw [List.getElem?_set_self (by omega)]
  · rw [List.getElem?_set_ne (by omega)]
    exact h6 j u hu
theorem BJ.dcell (h : BJ w0 gd gm Ts L f m w) {x : Nat} (hx : x < 20) : w.cell? ⟨gd, x, none⟩ = some (f x) ∧ w.frozen? ⟨gd, x, none⟩ = false := by
  obtain ⟨T, h1, h2, h3, h4, h5, h6⟩ := h
  have hb := h1.bk h4
  exact ⟨by rw [hb.cell, deskA_at f hx], hb.free x⟩
theorem BJ.mcell (h : BJ w0 gd gm Ts L f m w) {i : Nat} (hi : i < 2) : w.cell? ⟨gm, i, none⟩ = some (.int .i64 (m i)) ∧ w.frozen? ⟨gm, i, none⟩ = false := by
  obtain ⟨T, h1, h2, h3, h4, h5, h6⟩ := h
  have hb := h1.bk h5
  exact ⟨by rw [hb.cell, mostA_at m hi], hb.free i⟩
end
end Go.Proofs.YtdjaalkbpdmdgaaGreat
