/-
  Bag: keys compared; where a key stands among pairs.
-/
import Derived.Test.YtdjaalkbpdmdgaaGreatBg1
import Derived.Laws.Cover1
namespace Go.Proofs.YtdjaalkbpdmdgaaGreat
open Go.RowKit
set_option linter.unusedVariables false

/-! ### pairs as cells -/
def cells2 {α : Type} (f g : α → Value) : List α → List Value
  | [] => []
  | p :: l => f p :: g p :: cells2 f g l
theorem cells2_length {α : Type} (f g : α → Value) : ∀ l : List α, (cells2 f g l).length = l.length * 2
  | [] => rfl
  | p :: l => by simp only [cells2, List.length_cons, cells2_length f g l]; omega
theorem cells2_append {α : Type} (f g : α → Value) : ∀ l m : List α, cells2 f g (l ++ m) = cells2 f g l ++ cells2 f g m
  | [], m => rfl
  | p :: l, m => by simp only [cells2, List.cons_append, cells2_append f g l m]
theorem cells2_at {α : Type} (f g : α → Value) : ∀ (l : List α) (i : Nat) (p : α), l[i]? = some p → (cells2 f g l)[i * 2]? = some (f p) ∧ (cells2 f g l)[i * 2 + 1]? = some (g p)
  | [], i, p, h => by simp at h
  | q :: l, 0, p, h => by
    have : q = p := by simpa using h
    subst this
    exact ⟨rfl, rfl⟩
  | q :: l, i + 1, p, h => by
    have := cells2_at f g l i p (by simpa using h)
    rw [show (i + 1) * 2 = i * 2 + 1 + 1 by omega]
    simp only [cells2, List.getElem?_cons_succ]
    exact this
theorem cells2_take {α : Type} (f g : α → Value) : ∀ (l : List α) (i : Nat), (cells2 f g l).take (i * 2) = cells2 f g (l.take i)
  | [], i => by simp [cells2]
  | p :: l, 0 => by simp [cells2]
  | p :: l, i + 1 => by
    rw [show (i + 1) * 2 = i * 2 + 1 + 1 by omega]
    simp only [cells2, List.take_succ_cons, cells2_take f g l i]
theorem cells2_drop {α : Type} (f g : α → Value) : ∀ (l : List α) (i : Nat), (cells2 f g l).drop (i * 2) = cells2 f g (l.drop i)
  | [], i => by simp [cells2]
  | p :: l, 0 => by simp [cells2]
  | p :: l, i + 1 => by
    rw [show (i + 1) * 2 = i * 2 + 1 + 1 by omega]
    simp only [cells2, List.drop_succ_cons, cells2_drop f g l i]

/-- The halving. -/
def bsF (less : Nat → Bool) : Nat → Nat → Nat → Nat
  | 0, lo, _ => lo
  | f + 1, lo, hi => if lo < hi then (if less ((lo + hi) / 2) then bsF less f ((lo + hi) / 2 + 1) hi else bsF less f lo ((lo + hi) / 2)) else lo
theorem bsF_le (less : Nat → Bool) : ∀ f lo hi, lo ≤ hi → bsF less f lo hi ≤ hi
  | 0, lo, hi, h => h
  | f + 1, lo, hi, h => by
    simp only [bsF]
    split
    · split
      · exact bsF_le less f _ _ (by omega)
      · exact Nat.le_trans (bsF_le less f _ _ (by omega)) (by omega)
    · exact h
theorem bsF_end (less : Nat → Bool) (f lo : Nat) : bsF less f lo lo = lo := by
  cases f with
  | zero => rfl
  | succ f => simp only [bsF]; rw [if_neg (by omega)]
theorem bsF_spec (less : Nat → Bool) (k : Nat) (h1 : ∀ t, t < k → less t = true) (h2 : ∀ t, k ≤ t → less t = false) : ∀ (f lo hi : Nat), hi - lo ≤ f → lo ≤ k → k ≤ hi → bsF less f lo hi = k
  | 0, lo, hi, hf, a, b => by simp only [bsF]; omega
  | f + 1, lo, hi, hf, a, b => by
    simp only [bsF]
    by_cases h : lo < hi
    · rw [if_pos h]
      by_cases hl : (lo + hi) / 2 < k
      · rw [if_pos (h1 _ hl)]
        exact bsF_spec less k h1 h2 f _ _ (by omega) (by omega) b
      · rw [if_neg (by rw [h2 _ (by omega)]; simp)]
        exact bsF_spec less k h1 h2 f _ _ (by omega) a (by omega)
    · rw [if_neg h]
      omega

/-! ### int -/
def kN (k : Int) : Value := (Value.int .i64 k)
def vN (v : Int) : Value := (Value.int .u64 v)
def ltN (a b : Int) : Bool := decide (a < b)
def eqN (a b : Int) : Bool := decide (a = b)
def cmN (a b : Int) : Int := if ltN a b then -1 else if eqN a b then 0 else 1
theorem nanN (a : Int) (w : World) : Calls Tryz.prog 112 #[kN a] w fun e w' => e = .returned (.bool false) ∧ w = w' := by
  unfold kN
  go_enter Tryz.func112, Tryz.ntmps112
  go_wp2_with fail
  go_ret
  exact ⟨by simp, rfl⟩
theorem cmpN (a b : Int) (w : World) : Calls Tryz.prog 100 #[kN a, kN b] w fun e w' => e = .returned (.int .i64 (cmN a b)) ∧ w = w' := by
  have H := Lib.hid (fun (x : Int) (w : World) => nanN x w)
  unfold kN at H ⊢
  by_cases h1 : a < b
  · have e : cmN a b = -1 := by unfold cmN ltN; rw [if_pos (decide_eq_true h1)]
    rw [e]
    have d1 : decide (a < b) = true := decide_eq_true h1
    go_enter Tryz.func100, Tryz.ntmps100
    go_wp2_with fail
    refine (H.out a w).mono ?_
    rintro e w' ⟨rfl, rfl⟩
    go_wp2_with fail
    refine (H.out b w).mono ?_
    rintro e w' ⟨rfl, rfl⟩
    go_wp2_with fail
    go_ret
    exact ⟨rfl, rfl⟩
  · by_cases h2 : a = b
    · subst h2
      have e : cmN a a = 0 := by unfold cmN ltN eqN; simp
      rw [e]
      have d1 : decide (a < a) = false := decide_eq_false h1
      go_enter Tryz.func100, Tryz.ntmps100
      go_wp2_with fail
      refine (H.out a w).mono ?_
      rintro e w' ⟨rfl, rfl⟩
      go_wp2_with fail
      refine (H.out a w).mono ?_
      rintro e w' ⟨rfl, rfl⟩
      go_wp2_with fail
      go_ret
      exact ⟨rfl, rfl⟩
    · have e : cmN a b = 1 := by unfold cmN ltN eqN; rw [if_neg (by simpa using h1), if_neg (by simpa using h2)]
      rw [e]
      have d1 : decide (a < b) = false := decide_eq_false h1
      have d2 : decide (b < a) = true := decide_eq_true (by omega)
      go_enter Tryz.func100, Tryz.ntmps100
      go_wp2_with fail
      refine (H.out a w).mono ?_
      rintro e w' ⟨rfl, rfl⟩
      go_wp2_with fail
      refine (H.out b w).mono ?_
      rintro e w' ⟨rfl, rfl⟩
      go_wp2_with fail
      go_ret
      exact ⟨rfl, rfl⟩

abbrev PN := Int × Int
def cellsN (l : List PN) : List Value := cells2 (fun p => kN p.1) (fun p => vN p.2) l
def lessN (l : List PN) (k : Int) (i : Nat) : Bool := match l[i]? with
  | some p => decide (cmN p.1 k < 0)
  | none => false
def plN (l : List PN) (k : Int) : Nat := bsF (lessN l k) l.length 0 l.length
def pbN (l : List PN) (k : Int) : Bool := match l[plN l k]? with
  | some p => decide (cmN p.1 k = 0)
  | none => false
theorem plN_le (l : List PN) (k : Int) : plN l k ≤ l.length := bsF_le _ _ _ _ (Nat.zero_le _)

set_option maxHeartbeats 1600000 in
theorem placeN (b0 : Nat) (v : Value) (l : List PN) (k : Int) (w : World) (hL : Lst w b0 138 2 v l.length (cellsN l)) (hl : l.length ≤ 1000000000000) :
    Calls Tryz.prog 90 #[v, kN k] w fun e w' => e = .returned (.tuple #[.int .i64 (plN l k : Nat), .bool (pbN l k)]) ∧ w = w' := by
  obtain ⟨n, hn⟩ : ∃ n, l.length = n := ⟨_, rfl⟩
  have hq : plN l k = bsF (lessN l k) n 0 n := by unfold plN; rw [hn]
  have hqle := plN_le l k
  have hpb : pbN l k = match l[plN l k]? with
    | some p => decide (cmN p.1 k = 0)
    | none => false := rfl
  obtain ⟨Q, hQ⟩ : ∃ Q, plN l k = Q := ⟨_, rfl⟩
  obtain ⟨B, hB⟩ : ∃ B, pbN l k = B := ⟨_, rfl⟩
  rw [hQ] at hq hqle hpb ⊢
  rw [hB] at hpb ⊢
  rw [hn] at hL hl hqle
  obtain ⟨A, cp, rfl, _, _⟩ := hL.look
  have HC : Hid (∀ i p, l[i]? = some p → ∃ b o, A = some ⟨b, o, none⟩ ∧ w.cell? ⟨b, o + i * 2, none⟩ = some (kN p.1)) := by
    intro i p hp
    have hlt : i < n := by rw [← hn]; exact (List.getElem?_eq_some_iff.1 hp).1
    obtain ⟨b, o, _, hv, _, _, _, _, _, _, hcell⟩ := hL.form (by omega)
    injection hv with hv1 _ _
    exact ⟨b, o, hv1, hcell _ _ (cells2_at _ _ l i p hp).1⟩
  have HN := Lib.hid hn
  have HQ := Lib.hid hq
  have HPB := Lib.hid hpb
  have HCM := Lib.hid (fun (a b : Int) (w : World) => cmpN a b w)
  clear hL hn hq hpb hQ hB
  go_enter Tryz.func90, Tryz.ntmps90
  go_wp2_with fail
  go_loopw [6, 7] (fun a b wr => ∃ lo hi f : Nat, a = .int .i64 lo ∧ b = .int .i64 hi ∧ lo ≤ hi ∧ hi ≤ n ∧ Hid (hi - lo ≤ f) ∧ Hid (Q = bsF (lessN l k) f lo hi) ∧ w = wr) (fun a b _ => ((intOf b) - (intOf a)).toNat)
  case atStart => exact ⟨0, n, n, rfl, rfl, Nat.zero_le _, Nat.le_refl _, (by show n - 0 ≤ n; omega), HQ.out, rfl⟩
  case round =>
    obtain ⟨lo, hi, f, rfl, rfl, h1, h2, hf, hb, rfl⟩ := hrel
    by_cases hlt : lo < hi
    · obtain ⟨m, hm⟩ : ∃ m, (lo + hi) / 2 = m := ⟨_, rfl⟩
      have hml : lo ≤ m ∧ m < hi := by omega
      obtain ⟨p, hp⟩ : ∃ p, l[m]? = some p := ⟨_, List.getElem?_eq_getElem (by have := HN.out; omega)⟩
      obtain ⟨b, o, rfl, hc⟩ := HC.out m p hp
      have hd : decide ((lo : Int) < (hi : Int)) = true := decide_eq_true (by omega)
      have hmid : ((lo : Int) + (hi : Int)) / 2 = (m : Int) := by omega
      have hmi : (0 : Int) ≤ (lo : Int) + (hi : Int) := by omega
      have hm0 : (0 : Int) ≤ (m : Int) := by omega
      have hm1 : (m : Int) < (n : Int) := by omega
      have hless : lessN l k m = decide (cmN p.1 k < 0) := by unfold lessN; rw [hp]
      obtain ⟨f', rfl⟩ : ∃ f', f = f' + 1 := ⟨f - 1, by have := hf.out; omega⟩
      have hst : Q = if decide (cmN p.1 k < 0) then bsF (lessN l k) f' (m + 1) hi else bsF (lessN l k) f' lo m := by
        have h3 := hb.out
        simp only [bsF] at h3
        rw [if_pos hlt, hm, hless] at h3
        exact h3
      obtain ⟨C, hC⟩ : ∃ C, cmN p.1 k = C := ⟨_, rfl⟩
      obtain ⟨D, hD⟩ : ∃ D, decide (C < 0) = D := ⟨_, rfl⟩
      rw [hC, hD] at hst
      have HST := Lib.hid hst
      have HFF := Lib.hid hf
      have HMM := Lib.hid hm
      have HCC := Lib.hid hC
      clear hst hb hless hp hf hm hC
      go_wp2_with fail
      refine (HCM.out p.1 k w).mono ?_
      rintro e w1 ⟨rfl, rfl⟩
      rw [HCC.out]
      cases D with
      | true =>
        go_wp2_with fail
        go_roundw
        case rel => exact ⟨m + 1, hi, f', by go_num, rfl, by omega, h2, (by have := HFF.out.out; show hi - (m + 1) ≤ f'; omega), (by show Q = bsF (lessN l k) f' (m + 1) hi; have := HST.out; simpa using this), by first | rfl | trivial⟩
        case measure => simp [intOf]; omega
      | false =>
        go_wp2_with fail
        go_roundw
        case rel => exact ⟨lo, m, f', rfl, rfl, by omega, by omega, (by have := HFF.out.out; show m - lo ≤ f'; omega), (by show Q = bsF (lessN l k) f' lo m; have := HST.out; simpa using this), by first | rfl | trivial⟩
        case measure => simp [intOf]; omega
    · obtain rfl : lo = hi := by omega
      have hd : decide ((lo : Int) < (lo : Int)) = false := decide_eq_false (by omega)
      have hQl : Q = lo := by rw [hb.out, bsF_end]
      subst hQl
      clear hb hf
      by_cases hln : Q < n
      · obtain ⟨p, hp⟩ : ∃ p, l[Q]? = some p := ⟨_, List.getElem?_eq_getElem (by have := HN.out; omega)⟩
        obtain ⟨b, o, rfl, hc⟩ := HC.out Q p hp
        have hBe : B = decide (cmN p.1 k = 0) := by rw [HPB.out, hp]
        have hd2 : decide ((Q : Int) < (n : Int)) = true := decide_eq_true (by omega)
        have hQ0 : (0 : Int) ≤ (Q : Int) := by omega
        have hQ1 : (Q : Int) < (n : Int) := by omega
        have HBE := Lib.hid hBe
        clear hBe hp
        go_wp2_with fail
        refine (HCM.out p.1 k w).mono ?_
        rintro e w1 ⟨rfl, rfl⟩
        go_wp2_with fail
        go_ret2
        refine ⟨?_, rfl⟩
        rw [HBE.out]
        rfl
      · have hBe : B = false := by
          rw [HPB.out, List.getElem?_eq_none (by have := HN.out; omega)]
        have hd2 : decide ((Q : Int) < (n : Int)) = false := decide_eq_false (by omega)
        subst hBe
        go_wp2_with fail
        go_ret2
        exact ⟨rfl, rfl⟩

/-! ### string -/
def kT (k : ByteArray) : Value := (Value.string k)
def vT (v : Int) : Value := (Value.int .i64 v)
def ltT (a b : ByteArray) : Bool := Op.bytesLess a.toList b.toList
def eqT (a b : ByteArray) : Bool := (a.toList == b.toList)
def cmT (a b : ByteArray) : Int := if ltT a b then -1 else if eqT a b then 0 else 1
theorem nanT (a : ByteArray) (w : World) : Calls Tryz.prog 113 #[kT a] w fun e w' => e = .returned (.bool false) ∧ w = w' := by
  unfold kT
  go_enter Tryz.func113, Tryz.ntmps113
  go_wp2_with fail
  go_ret
  exact ⟨by simp, rfl⟩
theorem cmpT (a b : ByteArray) (w : World) : Calls Tryz.prog 106 #[kT a, kT b] w fun e w' => e = .returned (.int .i64 (cmT a b)) ∧ w = w' := by
  have H := Lib.hid (fun (x : ByteArray) (w : World) => nanT x w)
  obtain ⟨L, hL⟩ : ∃ L, Op.bytesLess a.toList b.toList = L := ⟨_, rfl⟩
  obtain ⟨E, hE⟩ : ∃ E, (a.toList == b.toList) = E := ⟨_, rfl⟩
  have e : cmT a b = if L then -1 else if E then 0 else 1 := by unfold cmT ltT eqT; rw [hL, hE]
  rw [e]
  unfold kT at H ⊢
  clear e
  cases L <;> cases E
  all_goals
    go_enter Tryz.func106, Tryz.ntmps106
    go_wp2_with fail
    refine (H.out a w).mono ?_
    rintro e w' ⟨rfl, rfl⟩
    go_wp2_with fail
    refine (H.out b w).mono ?_
    rintro e w' ⟨rfl, rfl⟩
    go_wp2_with fail
    go_ret
    exact ⟨rfl, rfl⟩

abbrev PT := ByteArray × Int
def cellsT (l : List PT) : List Value := cells2 (fun p => kT p.1) (fun p => vT p.2) l
def lessT (l : List PT) (k : ByteArray) (i : Nat) : Bool := match l[i]? with
  | some p => decide (cmT p.1 k < 0)
  | none => false
def plT (l : List PT) (k : ByteArray) : Nat := bsF (lessT l k) l.length 0 l.length
def pbT (l : List PT) (k : ByteArray) : Bool := match l[plT l k]? with
  | some p => decide (cmT p.1 k = 0)
  | none => false
theorem plT_le (l : List PT) (k : ByteArray) : plT l k ≤ l.length := bsF_le _ _ _ _ (Nat.zero_le _)

set_option maxHeartbeats 1600000 in
theorem placeT (b0 : Nat) (v : Value) (l : List PT) (k : ByteArray) (w : World) (hL : Lst w b0 145 2 v l.length (cellsT l)) (hl : l.length ≤ 1000000000000) :
    Calls Tryz.prog 95 #[v, kT k] w fun e w' => e = .returned (.tuple #[.int .i64 (plT l k : Nat), .bool (pbT l k)]) ∧ w = w' := by
  obtain ⟨n, hn⟩ : ∃ n, l.length = n := ⟨_, rfl⟩
  have hq : plT l k = bsF (lessT l k) n 0 n := by unfold plT; rw [hn]
  have hqle := plT_le l k
  have hpb : pbT l k = match l[plT l k]? with
    | some p => decide (cmT p.1 k = 0)
    | none => false := rfl
  obtain ⟨Q, hQ⟩ : ∃ Q, plT l k = Q := ⟨_, rfl⟩
  obtain ⟨B, hB⟩ : ∃ B, pbT l k = B := ⟨_, rfl⟩
  rw [hQ] at hq hqle hpb ⊢
  rw [hB] at hpb ⊢
  rw [hn] at hL hl hqle
  obtain ⟨A, cp, rfl, _, _⟩ := hL.look
  have HC : Hid (∀ i p, l[i]? = some p → ∃ b o, A = some ⟨b, o, none⟩ ∧ w.cell? ⟨b, o + i * 2, none⟩ = some (kT p.1)) := by
    intro i p hp
    have hlt : i < n := by rw [← hn]; exact (List.getElem?_eq_some_iff.1 hp).1
    obtain ⟨b, o, _, hv, _, _, _, _, _, _, hcell⟩ := hL.form (by omega)
    injection hv with hv1 _ _
    exact ⟨b, o, hv1, hcell _ _ (cells2_at _ _ l i p hp).1⟩
  have HN := Lib.hid hn
  have HQ := Lib.hid hq
  have HPB := Lib.hid hpb
  have HCM := Lib.hid (fun (a b : ByteArray) (w : World) => cmpT a b w)
  clear hL hn hq hpb hQ hB
  go_enter Tryz.func95, Tryz.ntmps95
  go_wp2_with fail
  go_loopw [6, 7] (fun a b wr => ∃ lo hi f : Nat, a = .int .i64 lo ∧ b = .int .i64 hi ∧ lo ≤ hi ∧ hi ≤ n ∧ Hid (hi - lo ≤ f) ∧ Hid (Q = bsF (lessT l k) f lo hi) ∧ w = wr) (fun a b _ => ((intOf b) - (intOf a)).toNat)
  case atStart => exact ⟨0, n, n, rfl, rfl, Nat.zero_le _, Nat.le_refl _, (by show n - 0 ≤ n; omega), HQ.out, rfl⟩
  case round =>
    obtain ⟨lo, hi, f, rfl, rfl, h1, h2, hf, hb, rfl⟩ := hrel
    by_cases hlt : lo < hi
    · obtain ⟨m, hm⟩ : ∃ m, (lo + hi) / 2 = m := ⟨_, rfl⟩
      have hml : lo ≤ m ∧ m < hi := by omega
      obtain ⟨p, hp⟩ : ∃ p, l[m]? = some p := ⟨_, List.getElem?_eq_getElem (by have := HN.out; omega)⟩
      obtain ⟨b, o, rfl, hc⟩ := HC.out m p hp
      have hd : decide ((lo : Int) < (hi : Int)) = true := decide_eq_true (by omega)
      have hmid : ((lo : Int) + (hi : Int)) / 2 = (m : Int) := by omega
      have hmi : (0 : Int) ≤ (lo : Int) + (hi : Int) := by omega
      have hm0 : (0 : Int) ≤ (m : Int) := by omega
      have hm1 : (m : Int) < (n : Int) := by omega
      have hless : lessT l k m = decide (cmT p.1 k < 0) := by unfold lessT; rw [hp]
      obtain ⟨f', rfl⟩ : ∃ f', f = f' + 1 := ⟨f - 1, by have := hf.out; omega⟩
      have hst : Q = if decide (cmT p.1 k < 0) then bsF (lessT l k) f' (m + 1) hi else bsF (lessT l k) f' lo m := by
        have h3 := hb.out
        simp only [bsF] at h3
        rw [if_pos hlt, hm, hless] at h3
        exact h3
      obtain ⟨C, hC⟩ : ∃ C, cmT p.1 k = C := ⟨_, rfl⟩
      obtain ⟨D, hD⟩ : ∃ D, decide (C < 0) = D := ⟨_, rfl⟩
      rw [hC, hD] at hst
      have HST := Lib.hid hst
      have HFF := Lib.hid hf
      have HMM := Lib.hid hm
      have HCC := Lib.hid hC
      clear hst hb hless hp hf hm hC
      go_wp2_with fail
      refine (HCM.out p.1 k w).mono ?_
      rintro e w1 ⟨rfl, rfl⟩
      rw [HCC.out]
      cases D with
      | true =>
        go_wp2_with fail
        go_roundw
        case rel => exact ⟨m + 1, hi, f', by go_num, rfl, by omega, h2, (by have := HFF.out.out; show hi - (m + 1) ≤ f'; omega), (by show Q = bsF (lessT l k) f' (m + 1) hi; have := HST.out; simpa using this), by first | rfl | trivial⟩
        case measure => simp [intOf]; omega
      | false =>
        go_wp2_with fail
        go_roundw
        case rel => exact ⟨lo, m, f', rfl, rfl, by omega, by omega, (by have := HFF.out.out; show m - lo ≤ f'; omega), (by show Q = bsF (lessT l k) f' lo m; have := HST.out; simpa using this), by first | rfl | trivial⟩
        case measure => simp [intOf]; omega
    · obtain rfl : lo = hi := by omega
      have hd : decide ((lo : Int) < (lo : Int)) = false := decide_eq_false (by omega)
      have hQl : Q = lo := by rw [hb.out, bsF_end]
      subst hQl
      clear hb hf
      by_cases hln : Q < n
      · obtain ⟨p, hp⟩ : ∃ p, l[Q]? = some p := ⟨_, List.getElem?_eq_getElem (by have := HN.out; omega)⟩
        obtain ⟨b, o, rfl, hc⟩ := HC.out Q p hp
        have hBe : B = decide (cmT p.1 k = 0) := by rw [HPB.out, hp]
        have hd2 : decide ((Q : Int) < (n : Int)) = true := decide_eq_true (by omega)
        have hQ0 : (0 : Int) ≤ (Q : Int) := by omega
        have hQ1 : (Q : Int) < (n : Int) := by omega
        have HBE := Lib.hid hBe
        clear hBe hp
        go_wp2_with fail
        refine (HCM.out p.1 k w).mono ?_
        rintro e w1 ⟨rfl, rfl⟩
        go_wp2_with fail
        go_ret2
        refine ⟨?_, rfl⟩
        rw [HBE.out]
        rfl
      · have hBe : B = false := by
          rw [HPB.out, List.getElem?_eq_none (by have := HN.out; omega)]
        have hd2 : decide ((Q : Int) < (n : Int)) = false := decide_eq_false (by omega)
        subst hBe
        go_wp2_with fail
        go_ret2
        exact ⟨rfl, rfl⟩
end Go.Proofs.YtdjaalkbpdmdgaaGreat
