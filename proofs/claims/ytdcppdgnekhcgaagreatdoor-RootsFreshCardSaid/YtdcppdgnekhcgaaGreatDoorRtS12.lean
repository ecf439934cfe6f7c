/-
  Roots: a script played; what is known.
-/
import Derived.Test.YtdcppdgnekhcgaaGreatDoorRtS11
import Derived.Test.YtdcppdgnekhcgaaGreatDoorRtS5
import Derived.Test.YtdcppdgnekhcgaaGreatDoorRtS3
import Derived.Test.YtdcppdgnekhcgaaGreatDoorSame5
namespace Go.Proofs.YtdcppdgnekhcgaaGreatDoor
open Go.RowKit
set_option maxRecDepth 100000
set_option linter.unusedVariables false

def inI (x : Int) : Prop := -9223372036854775808 ≤ x ∧ x ≤ 9223372036854775807
/-- A number brought among n. -/
def placeF (a n : Int) : Int := (if a < 0 then -(a + 1) else a) % n
theorem placeF_in (a n : Int) (hn : 0 < n) : 0 ≤ placeF a n ∧ placeF a n < n := ⟨Int.emod_nonneg _ (by omega), Int.emod_lt_of_pos _ hn⟩
theorem place_any (a n : Int) (w : World) (ha : inI a) (hn : 1 ≤ n ∧ n ≤ 100) : Calls Tryz.prog 47 #[.int .i64 a, .int .i64 n] w fun e w' => e = .returned (.int .i64 (placeF a n)) ∧ w = w' := by
  obtain ⟨h1, h2⟩ := ha
  obtain ⟨n1, n2⟩ := hn
  obtain ⟨p0, p1⟩ := placeF_in a n (by omega)
  unfold placeF at p0 p1 ⊢
  by_cases h : a < 0
  · rw [if_pos h] at p0 p1 ⊢
    have hd : decide (a < 0) = true := decide_eq_true h
    have e1 : IntKind.i64.wrap (a + 1) = a + 1 := IntWalk.i64_in _ (by omega)
    have e2 : IntKind.i64.wrap (-(a + 1)) = -(a + 1) := IntWalk.i64_in _ (by omega)
    have e3 : IntKind.i64.wrap (-(a + 1) % n) = -(a + 1) % n := IntWalk.i64_in _ (by omega)
    have e4 : (-(a + 1)).tmod n = -(a + 1) % n := Int.tmod_eq_emod_of_nonneg (by omega)
    have e5 : (n == 0) = false := by simpa using (show ¬ n = 0 by omega)
    have e6 : ¬ n = 0 := by omega
    have e7 : 0 ≤ -(a + 1) := by omega
    go_enter Tryz.func47, Tryz.ntmps47
    go_wp2_with fail
    go_ret
    exact ⟨rfl, rfl⟩
  · rw [if_neg h] at p0 p1 ⊢
    have hd : decide (a < 0) = false := decide_eq_false h
    have e3 : IntKind.i64.wrap (a % n) = a % n := IntWalk.i64_in _ (by omega)
    have e4 : a.tmod n = a % n := Int.tmod_eq_emod_of_nonneg (by omega)
    have e5 : (n == 0) = false := by simpa using (show ¬ n = 0 by omega)
    have e6 : ¬ n = 0 := by omega
    have e7 : 0 ≤ a := by omega
    go_enter Tryz.func47, Tryz.ntmps47
    go_wp2_with fail
    go_ret
    exact ⟨rfl, rfl⟩

/-- Roots of one's own: all of them lies from where w0 ended. -/
structure Sn (w0 : World) (g : Nat) (a : RA) (F : List Nat) (w : World) : Prop where
  rs : RS w0.heap.size w g a F
  fr : Fr [] w0 w
theorem Sn.to {w0 w w' : World} {g : Nat} {a a' : RA} {F : List Nat} {r : Value} {e : Ending} (h : Sn w0 g a F w) (ho : RO w0.heap.size g a' F r w e w') : e = .returned r ∧ ∃ F', Sn w0 g a' F' w' ∧ Fr F w w' ∧ ∀ x ∈ F', x ∈ F ∨ w.heap.size ≤ x := by
  obtain ⟨he, F', k1, k2, k3⟩ := ho
  exact ⟨he, F', ⟨k1, h.fr.trans k2 (fun x hx => .inr (h.rs.base x hx))⟩, k2, k3⟩
theorem Sn.nil {w0 w w' : World} {g : Nat} {a : RA} {F : List Nat} (h : Sn w0 g a F w) (hf : Fr [] w w') : Sn w0 g a F w' := ⟨h.rs.nil hf, h.fr.trans hf (by simp)⟩

/-- New roots. -/
def newA (T S H : Nat) : RA := ⟨S, List.replicate T [], List.replicate H (false, 0), []⟩
theorem fresh_rs {b0 : Nat} {w : World} {g gT gH T S H : Nat} (h : FreshR w g gT gH T S H) (hg : b0 ≤ g) (hT : b0 ≤ gT) (hH : b0 ≤ gH) : ∃ F, RS b0 w g (newA T S H) F := by
  refine ⟨_, ⟨gT, gH, S, List.replicate T ⟨.slice none 0 0, []⟩, List.replicate H (false, 0), .slice none 0 0, []⟩, ⟨?_, ?_, ?_, ?_, ?_, Lst.nil _ _ _ _, ?_, ?_, ?_, ?_, ?_, ?_⟩, ?_, rfl⟩
  · simpa using h.B
  · have := h.Th
    rw [List.map_replicate]
    simpa using this
  · intro t ht
    obtain ⟨_, rfl⟩ := List.mem_replicate.1 ht
    exact Lst.nil _ _ _ _
  · intro t ht f hf
    obtain ⟨_, rfl⟩ := List.mem_replicate.1 ht
    cases hf
  · have := h.Hd
    have e : (hV (List.replicate H (false, 0))).toArray = shutH H := by
      apply Array.ext_getElem?
      intro i
      have hl : (hV (List.replicate H (false, 0))).length = H * 2 := by rw [hV_length, List.length_replicate]
      have hs : (shutH H).size = H * 2 := by unfold shutH madeCells; simp
      by_cases hi : i < H * 2
      · obtain ⟨k, hk⟩ : ∃ k, i = k * 2 ∨ i = k * 2 + 1 := ⟨i / 2, by omega⟩
        have hk2 : k < H := by omega
        have hr : (List.replicate H (false, (0 : Int)))[k]? = some (false, 0) := by rw [List.getElem?_replicate, if_pos hk2]
        obtain ⟨a1, a2⟩ := hV_at _ _ _ hr
        rw [List.getElem?_toArray]
        rcases hk with rfl | rfl
        · rw [a1, shutH_open hk2]
        · rw [a2, shutH_at hk2]
      · rw [Array.getElem?_eq_none (by simp; omega), Array.getElem?_eq_none (by omega)]
    rw [e]
    exact this
  · show (([] : List Nat) ++ (List.replicate T (⟨.slice none 0 0, []⟩ : Thr)).flatMap Thr.ib).Nodup
    rw [List.nil_append]
    have : (List.replicate T (⟨.slice none 0 0, []⟩ : Thr)).flatMap Thr.ib = [] := by
      rw [List.flatMap_eq_nil_iff]
      intro t ht
      obtain ⟨_, rfl⟩ := List.mem_replicate.1 ht
      rfl
    rw [this]
    exact List.nodup_nil
  · show ((List.replicate T (⟨.slice none 0 0, []⟩ : Thr)).flatMap Thr.fb).Nodup
    have : (List.replicate T (⟨.slice none 0 0, []⟩ : Thr)).flatMap Thr.fb = [] := by
      rw [List.flatMap_eq_nil_iff]
      intro t ht
      obtain ⟨_, rfl⟩ := List.mem_replicate.1 ht
      rfl
    rw [this]
    exact List.nodup_nil
  · intro x hx
    rcases foot_mem.1 hx with rfl | rfl | rfl | hx | ⟨t, ht, f, hf, rfl⟩ | ⟨t, ht, hx⟩
    · exact hg
    · exact hT
    · exact hH
    · cases hx
    · obtain ⟨_, rfl⟩ := List.mem_replicate.1 ht
      cases hf
    · obtain ⟨_, rfl⟩ := List.mem_replicate.1 ht
      cases hx
  · have := h.ok
    simpa using this
  · intro t ht
    obtain ⟨_, rfl⟩ := List.mem_replicate.1 ht
    simp [Thr.ls, sumL]
  · intro t ht f hf
    obtain ⟨_, rfl⟩ := List.mem_replicate.1 ht
    cases hf
  · unfold Rts.abs newA
    simp [Thr.ls]

def SnNew (w0 : World) (T S H : Nat) (w : World) (e : Ending) (w' : World) : Prop := ∃ g F, e = .returned (.tuple #[.pointer (some ⟨g, 0, none⟩), .int .i64 0]) ∧ Sn w0 g (newA T S H) F w' ∧ Fr [] w w'
theorem new_sn {w0 w : World} (T S H : Nat) (hT : 1 ≤ T ∧ T ≤ 8) (hS : 1 ≤ S ∧ S ≤ 4096) (hH : H ≤ 1024) (hf : Fr [] w0 w) :
    Calls Tryz.prog 44 #[.int .i64 T, .int .i64 S, .int .i64 H] w (SnNew w0 T S H w) := by
  refine (new_ok T S H w hT hS hH).mono ?_
  rintro e w' ⟨g, gT, gH, rfl, h1, h2, h3, h4, h5⟩
  have hsz := hf.size
  obtain ⟨F, hF⟩ := fresh_rs (b0 := w0.heap.size) h5 (by omega) (by omega) (by omega)
  exact ⟨g, F, rfl, ⟨hF, hf.trans h1 (by simp)⟩, h1⟩
end Go.Proofs.YtdcppdgnekhcgaaGreatDoor
