/-
  Bag, the document's table of words by number: find, Get, Set.
-/
import Derived.Test.YtdjaalkbpdmdgaaGreatBgP1
import Derived.Test.YtdjaalkbpdmdgaaGreatBgT8
namespace Go.Proofs.YtdjaalkbpdmdgaaGreat
open Go.RowKit
set_option linter.unusedVariables false

def rkN (r : List PN) : List Value := r.map (fun p => kN p.1)
def rvN (r : List PN) : List Value := r.map (fun p => vN p.2)
theorem rkN_len (r : List PN) : (rkN r).length = r.length := by simp [rkN]
theorem rvN_len (r : List PN) : (rvN r).length = r.length := by simp [rvN]
theorem rkN_at {r : List PN} {i : Nat} {p : PN} (h : r[i]? = some p) : (rkN r)[i]? = some (kN p.1) := by unfold rkN; rw [List.getElem?_map, h]; rfl
theorem rvN_at {r : List PN} {i : Nat} {p : PN} (h : r[i]? = some p) : (rvN r)[i]? = some (vN p.2) := by unfold rvN; rw [List.getElem?_map, h]; rfl
abbrev RwN (b0 : Nat) (w : World) (g : Nat) (kv vv : Value) (r : List PN) : Prop := Rw 71 3 29 b0 w g kv vv (rkN r) (rvN r)
def RwNTo (b0 g : Nat) (kv vv : Value) (r : List PN) (res : Value) (w : World) (e : Ending) (w' : World) : Prop :=
  e = .returned res ∧ ∃ kv' vv', RwN b0 w' g kv' vv' r ∧ Fr (rwT g kv vv) w w' ∧ ∀ x ∈ rwT g kv' vv', x ∈ rwT g kv vv ∨ w.heap.size ≤ x
def findA (r : List PN) (k : Int) : Option Nat := r.findIdx? (fun p => p.1 == k)
def findI (r : List PN) (k : Int) : Int := match findA r k with | some i => (i : Int) | none => -1
theorem findA_none {r : List PN} {k : Int} (h : ∀ (q : Nat) (p : PN), r[q]? = some p → p.1 ≠ k) : findA r k = none := by
  unfold findA
  rw [List.findIdx?_eq_none_iff]
  intro p hp
  obtain ⟨q, hq⟩ := List.mem_iff_getElem?.1 hp
  simpa using h q p hq
theorem findA_some {r : List PN} {k : Int} {i : Nat} {p : PN} (hi : r[i]? = some p) (hp : p.1 = k) (h : ∀ (q : Nat) (p : PN), q < i → r[q]? = some p → p.1 ≠ k) : findA r k = some i := by
  unfold findA
  rw [List.findIdx?_eq_some_iff_getElem]
  obtain ⟨h1, h2⟩ := List.getElem?_eq_some_iff.1 hi
  refine ⟨h1, by rw [h2]; simpa using hp, fun j hj => ?_⟩
  have := h j r[j] hj (List.getElem?_eq_getElem (by omega))
  simpa using this

set_option maxRecDepth 100000 in
theorem wfind_any (b0 g : Nat) (kv vv : Value) (r : List PN) (k : Int) (w : World) (h : RwN b0 w g kv vv r) (hl : r.length ≤ 1000000) :
    Calls Tryz.prog 91 #[.pointer (some ⟨g, 0, none⟩), .int .i64 k] w fun e w' => e = .returned (.int .i64 (findI r k)) ∧ w = w' := by
  have hK := h.K
  rw [rkN_len] at hK
  obtain ⟨n, hn⟩ : ∃ n, r.length = n := ⟨_, rfl⟩
  have HN := Lib.hid hn
  rw [hn] at hK hl
  obtain ⟨A, cp, hv, _, _⟩ := hK.look
  have c0 : w.cell? ⟨g, 0, none⟩ = some (.slice A n cp) := by rw [← hv]; exact h.B.cell 0
  rw [hv] at hK
  have HK := Lib.hid hK
  clear h hv hn hK
  go_enter Tryz.func91, Tryz.ntmps91
  go_wp2_with fail
  go_loopw [5] (fun j wr => ∃ i : Nat, i ≤ n ∧ j = .int .i64 i ∧ w = wr ∧ Hid (∀ (q : Nat) (p : PN), q < i → r[q]? = some p → p.1 ≠ k)) (fun j _ => n - (intOf j).toNat)
  case atStart => exact ⟨0, by omega, rfl, rfl, fun q p hq => by omega⟩
  case round =>
    obtain ⟨i, hi, rfl, rfl, HX⟩ := hrel
    by_cases hlt : i < n
    · obtain ⟨p, hp⟩ : ∃ p, r[i]? = some p := ⟨_, List.getElem?_eq_getElem (by have := HN.out; omega)⟩
      obtain ⟨gl, off, cap, hq, _, _, _, _, _, _, hcl⟩ := HK.out.form (by omega)
      injection hq with q1 _ q3
      subst q1 q3
      have cx := hcl i _ (rkN_at hp)
      obtain ⟨pk, pv⟩ := p
      unfold kN at cx
      have i0 : (0 : Int) ≤ (i : Int) := by omega
      have i1 : (i : Int) < (n : Int) := by omega
      have i2 : decide ((i : Int) < (n : Int)) = true := decide_eq_true i1
      by_cases he : pk = k
      · have d0 : (pk == k) = true := by simpa using he
        have hf : findI r k = (i : Int) := by unfold findI; rw [findA_some hp he (fun q p hq hqp => HX.out q p hq hqp)]
        have HFE := Lib.hid hf
        clear hcl hp hf he
        go_wp2_with fail
        go_ret
        exact ⟨by rw [HFE.out]; rfl, rfl⟩
      · have d0 : (pk == k) = false := by simpa using he
        have HY : Hid (∀ (q : Nat) (p : PN), q < i + 1 → r[q]? = some p → p.1 ≠ k) := fun q p hq hqp => by
          by_cases e : q = i
          · subst e
            rw [hp] at hqp
            injection hqp with hqp
            rw [← hqp]
            exact he
          · exact HX.out q p (by omega) hqp
        clear hcl hp he
        go_wp2_with fail
        go_roundw
        case rel => exact ⟨i + 1, by omega, by go_num, by first | rfl | trivial, HY.out⟩
        case measure => simp [intOf]; omega
    · obtain rfl : n = i := by omega
      have hf : findI r k = -1 := by
        unfold findI
        rw [findA_none (fun q p hqp => HX.out q p (by have := (List.getElem?_eq_some_iff.1 hqp).1; have := HN.out; omega) hqp)]
      have HFE := Lib.hid hf
      have i2 : decide ((n : Int) < (n : Int)) = false := decide_eq_false (by omega)
      clear hf
      go_wp2_with fail
      go_ret
      exact ⟨by rw [HFE.out]; rfl, rfl⟩

def rgetN (r : List PN) (k : Int) : Option Int := (findA r k).bind (fun i => (r[i]?).map (·.2))
set_option maxRecDepth 100000 in
theorem wget_same (b0 g : Nat) (kv vv : Value) (r : List PN) (k : Int) (w : World) (h : RwN b0 w g kv vv r) (hl : r.length ≤ 1000000) :
    Calls Tryz.prog 59 #[.pointer (some ⟨g, 0, none⟩), .int .i64 k] w fun e w' => e = .returned (match rgetN r k with | some v => .tuple #[vN v, .bool true] | none => .tuple #[.int .u64 0, .bool false]) ∧ w = w' := by
  have HF := Lib.hid (wfind_any b0 g kv vv r k w h hl)
  cases hf : findA r k with
  | none =>
    have e1 : rgetN r k = none := by unfold rgetN; rw [hf]; rfl
    have e2 : findI r k = -1 := by unfold findI; rw [hf]
    rw [e1]
    rw [e2] at HF
    clear h e1 e2 hf
    go_enter Tryz.func59, Tryz.ntmps59
    go_wp2_with fail
    refine (Calls.mono HF.out ?_)
    rintro e w' ⟨rfl, rfl⟩
    go_wp2_with fail
    go_ret2
    exact ⟨rfl, rfl⟩
  | some i =>
    have hi : i < r.length := by
      unfold findA at hf
      rw [List.findIdx?_eq_some_iff_getElem] at hf
      exact hf.1
    obtain ⟨p, hp⟩ : ∃ p, r[i]? = some p := ⟨_, List.getElem?_eq_getElem hi⟩
    have e1 : rgetN r k = some p.2 := by unfold rgetN; rw [hf]; simp [hp]
    have e2 : findI r k = (i : Int) := by unfold findI; rw [hf]
    rw [e1]
    rw [e2] at HF
    have hV := h.V
    rw [rvN_len] at hV
    obtain ⟨n, hn⟩ : ∃ n, r.length = n := ⟨_, rfl⟩
    rw [hn] at hV hi
    obtain ⟨gl, off, cap, hv, _, _, _, _, _, _, hcl⟩ := hV.form (by omega)
    have c1 : w.cell? ⟨g, 1, none⟩ = some (.slice (some ⟨gl, off, none⟩) n cap) := by rw [← hv]; exact h.B.cell 1
    have cx := hcl i _ (rvN_at hp)
    obtain ⟨pk, pv⟩ := p
    unfold vN at cx ⊢
    have i0 : (0 : Int) ≤ (i : Int) := by omega
    have i1 : (i : Int) < (n : Int) := by omega
    have i2 : decide ((i : Int) < 0) = false := decide_eq_false (by omega)
    clear h e1 e2 hf hV hv hcl hn hp
    go_enter Tryz.func59, Tryz.ntmps59
    go_wp2_with fail
    refine (Calls.mono HF.out ?_)
    rintro e w' ⟨rfl, rfl⟩
    go_wp2_with fail
    go_ret2
    exact ⟨rfl, rfl⟩
theorem wget_any (b0 g : Nat) (kv vv : Value) (r : List PN) (k : Int) (w : World) (h : RwN b0 w g kv vv r) (hl : r.length ≤ 1000000) :
    Calls Tryz.prog 59 #[.pointer (some ⟨g, 0, none⟩), .int .i64 k] w fun e w' => e = .returned (match rgetN r k with | some v => .tuple #[vN v, .bool true] | none => .tuple #[.int .u64 0, .bool false]) ∧ Fr [] w w' :=
  (wget_same b0 g kv vv r k w h hl).mono fun e w' ⟨h1, h2⟩ => ⟨h1, by subst h2; exact Fr.refl _ _⟩
end Go.Proofs.YtdjaalkbpdmdgaaGreat
