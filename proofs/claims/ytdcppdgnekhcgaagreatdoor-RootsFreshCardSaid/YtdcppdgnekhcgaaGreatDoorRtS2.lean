/-
  Roots in general: what they hold (plain), and Push.
-/
import Derived.Test.YtdcppdgnekhcgaaGreatDoorRtS1
import Derived.Deep.RegionLaw
namespace Go.Proofs.YtdcppdgnekhcgaaGreatDoor
open Go.RowKit
set_option maxRecDepth 100000
set_option linter.unusedVariables false

/-- What roots hold. -/
structure RA where
  S : Nat
  ths : List (List (List Int))
  hs : List (Bool × Int)
  q : List Int
def Rts.abs (R : Rts) : RA := ⟨R.S, R.ths.map Thr.ls, R.hs, R.q⟩
def RS (b0 : Nat) (w : World) (g : Nat) (a : RA) (F : List Nat) : Prop := ∃ R, RT b0 w g R ∧ R.abs = a ∧ R.foot g = F
/-- What a call leaves. -/
def RO (b0 g : Nat) (a' : RA) (F : List Nat) (r : Value) (w : World) (e : Ending) (w' : World) : Prop :=
  e = .returned r ∧ ∃ F', RS b0 w' g a' F' ∧ Fr F w w' ∧ ∀ x ∈ F', x ∈ F ∨ w.heap.size ≤ x
theorem RS.fr {b0 : Nat} {w w' : World} {g : Nat} {a : RA} {F S : List Nat} (h : RS b0 w g a F) (hf : Fr S w w') (hS : ∀ x ∈ F, x ∉ S) : RS b0 w' g a F := by
  obtain ⟨R, h1, h2, h3⟩ := h
  exact ⟨R, h1.fr hf (by rw [h3]; exact hS), h2, h3⟩
theorem RS.nil {b0 : Nat} {w w' : World} {g : Nat} {a : RA} {F : List Nat} (h : RS b0 w g a F) (hf : Fr [] w w') : RS b0 w' g a F := h.fr hf (by simp)
theorem RS.lt {b0 : Nat} {w : World} {g : Nat} {a : RA} {F : List Nat} (h : RS b0 w g a F) : ∀ x ∈ F, x < w.heap.size := by
  obtain ⟨R, h1, h2, rfl⟩ := h
  exact h1.lt
theorem RS.base {b0 : Nat} {w : World} {g : Nat} {a : RA} {F : List Nat} (h : RS b0 w g a F) : ∀ x ∈ F, b0 ≤ x := by
  obtain ⟨R, h1, h2, rfl⟩ := h
  exact h1.base
theorem RO.same {b0 : Nat} {w : World} {g : Nat} {a : RA} {F : List Nat} {r : Value} {w' : World} (h : RS b0 w g a F) (hf : Fr [] w w') : RO b0 g a F r w (.returned r) w' := ⟨rfl, F, h.nil hf, hf.mono (by simp), fun x hx => .inl hx⟩
theorem RO.of {b0 : Nat} {w w' : World} {g : Nat} {R R' : Rts} {r : Value} (h : RT b0 w' g R' ∧ Fr (R.foot g) w w' ∧ ∀ x ∈ R'.foot g, x ∈ R.foot g ∨ w.heap.size ≤ x) : RO b0 g R'.abs (R.foot g) r w (.returned r) w' := ⟨rfl, _, ⟨R', h.1, rfl, rfl⟩, h.2.1, h.2.2⟩

def inT (a : RA) (t : Int) : Bool := decide (0 ≤ t) && decide (t < (a.ths.length : Int))
def thA (a : RA) (t : Int) : List (List Int) := a.ths.getD t.toNat []
def pushA (a : RA) (t n : Int) : RA × Int :=
  if inT a t = false then (a, 51) else if n < 1 then (a, 50) else if (a.S : Int) - (sumL (thA a t) : Nat) < n then (a, 53)
  else ({ a with ths := a.ths.set t.toNat (thA a t ++ [List.replicate n.toNat 0]) }, 0)

theorem split_at {α : Type} : ∀ {l : List α} {i : Nat}, i < l.length → ∃ A x B, l = A ++ x :: B ∧ A.length = i
  | [], i, h => by simp at h
  | x :: l, 0, h => ⟨[], x, l, rfl, rfl⟩
  | x :: l, i + 1, h => by
    obtain ⟨A, y, B, e, h2⟩ := split_at (l := l) (i := i) (by simpa using h)
    exact ⟨x :: A, y, B, by rw [e]; rfl, by simp [h2]⟩
theorem set_mid {α : Type} (A : List α) (x y : α) (B : List α) : (A ++ x :: B).set A.length y = A ++ y :: B := by
  rw [List.set_append_right _ _ (Nat.le_refl _)]
  simp
theorem getD_mid {α : Type} (A : List α) (x d : α) (B : List α) : (A ++ x :: B).getD A.length d = x := by
  simp [List.getD]
theorem abs_at {R : Rts} {A B : List Thr} {t : Thr} (h : R.ths = A ++ t :: B) {i : Int} (hi : i = (A.length : Nat)) : thA R.abs i = t.ls := by
  subst hi
  unfold thA Rts.abs
  rw [h, List.map_append, List.map_cons, Int.toNat_natCast]
  have := getD_mid (A.map Thr.ls) t.ls [] (B.map Thr.ls)
  rw [List.length_map] at this
  exact this
theorem abs_set {R : Rts} {A B : List Thr} {t t' : Thr} (h : R.ths = A ++ t :: B) {i : Int} (hi : i = (A.length : Nat)) : ({ R with ths := A ++ t' :: B } : Rts).abs = { R.abs with ths := R.abs.ths.set i.toNat t'.ls } := by
  subst hi
  unfold Rts.abs
  rw [h, List.map_append, List.map_cons, Int.toNat_natCast]
  have := set_mid (A.map Thr.ls) t.ls t'.ls (B.map Thr.ls)
  rw [List.length_map] at this
  simp only [this, List.map_append, List.map_cons]
theorem inT_split {R : Rts} {i : Int} (h : inT R.abs i = true) : ∃ A t B, R.ths = A ++ t :: B ∧ i = (A.length : Nat) ∧ 0 ≤ i ∧ i < (R.ths.length : Int) := by
  unfold inT Rts.abs at h
  simp only [Bool.and_eq_true, decide_eq_true_eq, List.length_map] at h
  obtain ⟨A, t, B, h1, h2⟩ := split_at (l := R.ths) (i := i.toNat) (by omega)
  exact ⟨A, t, B, h1, by omega, h.1, h.2⟩

section
variable {b0 : Nat} {w w' : World} {g : Nat} {R : Rts}
theorem RT.hasC (h : RT b0 w g R) (t : Int) (W : World) (hW : W.cell? ⟨g, 1, none⟩ = w.cell? ⟨g, 1, none⟩) : Calls Tryz.prog 56 #[.pointer (some ⟨g, 0, none⟩), .int .i64 t] W fun e w' => e = .returned (.bool (inT R.abs t)) ∧ W = w' := by
  have := has_any g R.ths.length R.ths.length _ t W h.ok.2.1 (hW.trans (h.B.cell 1))
  unfold inT Rts.abs
  rw [List.length_map]
  exact this
theorem RT.th_at (h : RT b0 w g R) {A B : List Thr} {t : Thr} (hR : R.ths = A ++ t :: B) : w.cell? ⟨R.gT, A.length, none⟩ = some t.v := by
  rw [h.Th.cell, hR]
  simp
theorem RT.f_at (h : RT b0 w g R) {t : Thr} (ht : t ∈ R.ths) {k : Nat} {f : Frm} (hf : t.fs[k]? = some f) : ∃ gb off cap, t.v = .slice (some ⟨gb, off, none⟩) t.fs.length cap ∧ w.cell? ⟨gb, off + k, none⟩ = some (frV f) := by
  obtain ⟨gb, off, cap, h1, _, _, _, _, _, _, hc⟩ := (h.Fs t ht).form (by have := (List.getElem?_eq_some_iff.1 hf).1; omega)
  exact ⟨gb, off, cap, h1, hc k _ (by rw [List.getElem?_map, hf]; rfl)⟩

theorem sumL_take_succ {l : List (List Int)} {k : Nat} {x : List Int} (h : l[k]? = some x) : sumL (l.take (k + 1)) = sumL (l.take k) + x.length := by
  obtain ⟨h1, h2⟩ := List.getElem?_eq_some_iff.1 h
  unfold sumL
  rw [List.take_succ_eq_append_getElem h1, h2, List.map_append, List.sum_append]
  simp
theorem sumL_take_le (l : List (List Int)) (k : Nat) : sumL (l.take k) ≤ sumL l := by
  unfold sumL
  conv => rhs; rw [← List.take_append_drop k l]
  rw [List.map_append, List.sum_append]
  omega

/-- A frame pushed, in memory. -/
theorem RT.pushed {A B : List Thr} {t : Thr} {w1 : World} {v' : Value} {nb n : Nat} (h : RT b0 w g R) (hb0 : b0 ≤ w.heap.size) (hR : R.ths = A ++ t :: B) (hf : Go.Proofs.YtdcppdgnekhcgaaGreatDoor.Fr t.fb w w1) (hL : Lst w1 b0 29 1 v' (t.fs.length + 1) (t.fs.map frV ++ [.slice (some ⟨nb, 0, none⟩) n n]))
    (hv : v'.ownBlock = t.v.ownBlock ∨ ∃ z, v'.ownBlock = some z ∧ w.heap.size ≤ z) (hN : Bk w1 nb 3 (Array.replicate n (.int .i64 0))) (hnb : w.heap.size ≤ nb) (hn : 1 ≤ n) (hs : sumL t.ls + n ≤ R.S) :
    RO b0 g { R.abs with ths := R.abs.ths.set A.length (t.ls ++ [List.replicate n 0]) } (R.foot g) (.int .i64 0) w (.returned (.int .i64 0)) (w1.setCell ⟨R.gT, A.length, none⟩ v') := by
  have ht : t ∈ R.ths := by rw [hR]; simp
  obtain ⟨k1, k2, k3, k4, k5, k6⟩ := h.kinds
  have hTf : R.gT ∉ t.fb := fun hx => (k6 t ht R.gT (by simpa [Thr.fb] using hx)).2.1 rfl
  have hT1 := h.Th.fr hf hTf
  have hlt := hT1.lt
  have hvT : ∀ z, v'.ownBlock = some z → z ≠ R.gT := hL.ne_bk hT1 (by decide)
  have hvn : nb ≠ R.gT := hN.ne hT1 (by decide)
  have e1 : (⟨v', t.fs ++ [⟨nb, List.replicate n 0⟩]⟩ : Thr).ls = t.ls ++ [List.replicate n 0] := by simp [Thr.ls]
  have e2 : (iV (List.replicate n 0)).toArray = Array.replicate n (.int .i64 0) := by unfold iV; rw [List.map_replicate]; simp
  have s2 : Go.Proofs.YtdcppdgnekhcgaaGreatDoor.Fr [R.gT] w1 (w1.setCell ⟨R.gT, A.length, none⟩ v') := (Fr.refl _ _).setCell (by simp) _
  have key := h.change (t' := ⟨v', t.fs ++ [⟨nb, List.replicate n 0⟩]⟩) (S := R.gT :: t.fb) hR ((hf.mono (by simp; exact fun x hx => .inl (.inr hx))).trans s2 (by simp)) hb0 (fun x hx => by
      rcases List.mem_cons.1 hx with e | e
      · exact .inl e
      · exact .inr (.inl e)) ?_ ?_ ?_ ?_ ?_ ?_ ?_ ?_
  · have := RO.of (r := .int .i64 0) key
    rw [abs_set hR rfl, e1, Int.toNat_natCast] at this
    exact this
  · have := hT1.put A.length v'
    rw [hR] at this
    have e : ((List.map Thr.v (A ++ t :: B)).toArray).setIfInBounds A.length v' = (List.map Thr.v (A ++ ⟨v', t.fs ++ [⟨nb, List.replicate n 0⟩]⟩ :: B)).toArray := by
      have := set_mid (A.map Thr.v) t.v v' (B.map Thr.v)
      rw [List.length_map] at this
      simp [List.map_append, this]
    rw [e] at this
    exact this
  · have := hL.far (p := ⟨R.gT, A.length, none⟩) hvT v'
    show Lst _ b0 _ 1 v' (t.fs ++ [(⟨nb, List.replicate n 0⟩ : Frm)]).length ((t.fs ++ [(⟨nb, List.replicate n 0⟩ : Frm)]).map frV)
    rw [List.length_append, List.map_append]
    have e3 : List.map frV [(⟨nb, List.replicate n 0⟩ : Frm)] = [.slice (some ⟨nb, 0, none⟩) n n] := by simp [frV]
    rw [e3]
    exact this
  · intro f hff
    rcases List.mem_append.1 hff with hff | hff
    · have hfb : f.b ∉ t.fb := fun hx => (k6 t ht f.b (by simpa [Thr.fb] using hx)).2.2.2.2 t ht f hff rfl
      exact ((h.Fr t ht f hff).fr hf hfb).fr s2 (by simpa using (k5 t ht f hff).2.1)
    · simp only [List.mem_cons, List.not_mem_nil, or_false] at hff
      subst hff
      show Bk _ nb _ (iV (List.replicate n 0)).toArray
      rw [e2]
      exact hN.fr s2 (by simpa using hvn)
  · intro x hx
    simp only [Thr.ib, List.map_append, List.map_cons, List.map_nil, List.mem_append, List.mem_cons, List.not_mem_nil, or_false] at hx
    rcases hx with hx | rfl
    · exact .inl hx
    · exact .inr hnb
  · intro x hx
    have hx : v'.ownBlock = some x := by simpa [Thr.fb] using hx
    rcases hv with e | ⟨z, e, hz⟩
    · rw [e] at hx
      exact .inl (by simp [Thr.fb, hx])
    · rw [e] at hx
      injection hx with hx
      subst hx
      exact .inr hz
  · show (List.map Frm.b (t.fs ++ [(⟨nb, List.replicate n 0⟩ : Frm)])).Nodup
    have ndt : t.ib.Nodup := by
      have := h.ndI
      unfold Rts.ib at this
      rw [hR, List.flatMap_append, List.flatMap_cons] at this
      exact (List.nodup_append.1 (List.nodup_append.1 (List.nodup_append.1 this).2.1).2.1).1
    rw [List.map_append]
    refine List.nodup_append.2 ⟨ndt, by simp, fun x hx y hy e => ?_⟩
    simp only [List.map_cons, List.map_nil, List.mem_cons, List.not_mem_nil, or_false] at hy
    obtain ⟨f, hff, rfl⟩ := List.mem_map.1 hx
    have := (h.Fr t ht f hff).lt
    omega
  · rw [e1]
    unfold sumL at hs ⊢
    rw [List.map_append, List.sum_append]
    simp
    exact hs
  · intro f hff
    rcases List.mem_append.1 hff with hff | hff
    · exact h.one t ht f hff
    · simp only [List.mem_cons, List.not_mem_nil, or_false] at hff
      subst hff
      simpa using hn
end
end Go.Proofs.YtdcppdgnekhcgaaGreatDoor
