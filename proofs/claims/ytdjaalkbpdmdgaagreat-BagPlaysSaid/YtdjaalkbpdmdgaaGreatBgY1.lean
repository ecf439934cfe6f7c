/-
  Bag: tables of numbers by text: the order of strings, Get, Drop, and what they do in plain Lean.
-/
import Derived.Test.YtdjaalkbpdmdgaaGreatBg5
namespace Go.Proofs.YtdjaalkbpdmdgaaGreat
open Go.RowKit
set_option linter.unusedVariables false

theorem bytesLess_dec : ∀ (x y : List UInt8), Op.bytesLess x y = decide (x < y)
  | [], [] => by simp [Op.bytesLess]
  | _ :: _, [] => by simp [Op.bytesLess]
  | [], _ :: _ => by simp [Op.bytesLess]
  | a :: x, b :: y => by
    rw [Op.bytesLess, bytesLess_dec x y]
    by_cases h : a = b
    · simp [List.cons_lt_cons_iff, h]
    · simp [List.cons_lt_cons_iff, h]
def toL (a : ByteArray) : List UInt8 := a.data.toList
theorem toL_inj {a b : ByteArray} (h : toL a = toL b) : a = b := ByteArray.ext (Array.toList_inj.1 h)
instance instLTB : LT ByteArray := ⟨fun a b => toL a < toL b⟩
instance instLEB : LE ByteArray := ⟨fun a b => ¬ b < a⟩
instance instDLTB : DecidableLT ByteArray := fun a b => inferInstanceAs (Decidable (toL a < toL b))
instance instDLEB : DecidableLE ByteArray := fun a b => inferInstanceAs (Decidable (¬ b < a))
instance instLawB : Std.LawfulOrderLT ByteArray := ⟨fun a b => by
  show toL a < toL b ↔ (¬ toL b < toL a) ∧ ¬ ¬ toL a < toL b
  constructor
  · intro h; exact ⟨List.lt_asymm h, fun h2 => h2 h⟩
  · intro h; exact Classical.not_not.1 h.2⟩
instance instLinB : Std.IsLinearOrder ByteArray where
  le_refl a := List.lt_irrefl (toL a)
  le_trans a b c h1 h2 := by
    show ¬ toL c < toL a
    exact List.le_trans (l₁ := toL a) (l₂ := toL b) (l₃ := toL c) h1 h2
  le_total a b := by
    show (¬ toL b < toL a) ∨ ¬ toL a < toL b
    exact List.le_total (toL a) (toL b)
  le_antisymm a b h1 h2 := by
    have h1 : ¬ toL b < toL a := h1
    have h2 : ¬ toL a < toL b := h2
    exact toL_inj (List.le_antisymm h1 h2)
theorem ltB_irrefl (a : ByteArray) : ¬ a < a := List.lt_irrefl (toL a)
theorem leB_refl (a : ByteArray) : a ≤ a := List.lt_irrefl (toL a)
/-- The machine's comparisons. -/
theorem lssB (a b : ByteArray) : Op.bytesLess a.toList b.toList = decide (a < b) := by
  rw [bytesLess_dec, ByteArray.toList_eq, ByteArray.toList_eq]; rfl
theorem eqlB (a b : ByteArray) : (a.toList == b.toList) = decide (a = b) := by
  rw [ByteArray.toList_eq, ByteArray.toList_eq]
  by_cases h : a = b
  · subst h; simp
  · rw [decide_eq_false h]
    refine beq_eq_false_iff_ne.2 (fun e => h (toL_inj e))
theorem leqB (a b : ByteArray) : (Op.bytesLess a.toList b.toList || a.toList == b.toList) = decide (a ≤ b) := by
  rw [lssB, eqlB]
  by_cases h1 : a < b
  · have : a ≤ b := by grind
    simp [h1, this]
  · by_cases h2 : a = b
    · have : a ≤ b := by grind
      simp [h2]
      try grind
    · have : ¬ a ≤ b := by grind
      simp [h1, h2, this]
theorem ltT_dec (a b : ByteArray) : ltT a b = decide (a < b) := lssB a b
theorem eqT_dec (a b : ByteArray) : eqT a b = decide (a = b) := eqlB a b
theorem cmT_lt (a k : ByteArray) : decide (cmT a k < 0) = decide (a < k) := by
  unfold cmT
  rw [ltT_dec, eqT_dec]
  by_cases h : a < k
  · simp [h]
  · by_cases h2 : a = k
    · simp [h2]; grind
    · simp [h, h2]
theorem cmT_eq (a k : ByteArray) : decide (cmT a k = 0) = decide (a = k) := by
  unfold cmT
  rw [ltT_dec, eqT_dec]
  by_cases h : a < k
  · have : a ≠ k := by grind
    simp [h, this]
  · by_cases h2 : a = k
    · have h3 : ¬ k < k := by grind
      simp [h2, h3]
    · simp [h, h2]
end Go.Proofs.YtdjaalkbpdmdgaaGreat
namespace Go.Proofs.YtdjaalkbpdmdgaaGreat
open Go.RowKit
set_option linter.unusedVariables false

/-- What Get finds. -/
def gtT (l : List PT) (k : ByteArray) : Option Int := if pbT l k then (l[plT l k]?).map (·.2) else none
def GotT (o : Option Int) (w : World) (e : Ending) (w' : World) : Prop :=
  e = .returned (match o with
    | some p => .tuple #[vT p, .bool true]
    | none => .tuple #[(.int .i64 0), .bool false]) ∧ Fr [] w w'

def GotST (o : Option Int) (w : World) (e : Ending) (w' : World) : Prop :=
  e = .returned (match o with
    | some p => .tuple #[vT p, .bool true]
    | none => .tuple #[(.int .i64 0), .bool false]) ∧ w = w'

set_option maxHeartbeats 1600000 in
theorem getT_same (b0 g : Nat) (v : Value) (l : List PT) (k : ByteArray) (w : World) (h : TbT b0 w g v l) (hl : l.length ≤ 1000000000) :
    Calls Tryz.prog 68 #[.pointer (some ⟨g, 0, none⟩), kT k] w (GotST (gtT l k) w) := by
  have HPL : Hid (Calls Tryz.prog 95 #[v, kT k] w fun e w' => e = .returned (.tuple #[.int .i64 (plT l k : Nat), .bool (pbT l k)]) ∧ w = w') := placeT b0 _ l k w h.L (by omega)
  obtain ⟨Q, hQ⟩ : ∃ Q, plT l k = Q := ⟨_, rfl⟩
  have c0 : w.cell? ⟨g, 0, none⟩ = some v := h.B.cell 0
  cases hb : pbT l k with
  | true =>
    have hp1 := hb
    unfold pbT at hp1
    obtain ⟨p, hp⟩ : ∃ p, l[plT l k]? = some p := by
      cases hh : l[plT l k]? with
      | none => rw [hh] at hp1; cases hp1
      | some p => exact ⟨p, rfl⟩
    have e : gtT l k = some p.2 := by unfold gtT; rw [if_pos hb, hp]; rfl
    rw [e]
    rw [hQ, hb] at HPL
    rw [hQ] at hp
    have hlt : Q < l.length := (List.getElem?_eq_some_iff.1 hp).1
    obtain ⟨n, hn⟩ : ∃ n, l.length = n := ⟨_, rfl⟩
    have hL := h.L
    rw [hn] at hL hl hlt
    obtain ⟨bb, o, cp, rfl, hbb, hbl, _, _, _, hfz, hcell⟩ := hL.form (by omega)
    obtain ⟨ck, cv⟩ := cells2_at (fun p : PT => kT p.1) (fun p => vT p.2) l Q p hp
    have ck := hcell _ _ ck
    have cv := hcell _ _ cv
    rw [← Nat.add_assoc] at cv
    have i0 : (0 : Int) ≤ (Q : Int) := by omega
    have i1 : (Q : Int) < (n : Int) := by omega
    clear h hb hL hcell hfz hp hQ hn hp1 e
    unfold GotST
    obtain ⟨pk, pv⟩ := p
    unfold kT vT at *
    simp only at *
    go_enter Tryz.func68, Tryz.ntmps68
    go_wp2_with fail
    refine (Calls.mono HPL.out ?_)
    rintro e w1 ⟨rfl, rfl⟩
    go_wp2_with fail
    go_ret2
    exact ⟨rfl, rfl⟩
  | false =>
    have e : gtT l k = none := by unfold gtT; rw [if_neg (by rw [hb]; simp)]
    rw [e]
    rw [hQ, hb] at HPL
    clear h hb hQ e hl
    unfold GotST
    unfold kT at *
    go_enter Tryz.func68, Tryz.ntmps68
    go_wp2_with fail
    refine (Calls.mono HPL.out ?_)
    rintro e w1 ⟨rfl, rfl⟩
    go_wp2_with fail
    go_ret2
    exact ⟨rfl, rfl⟩
theorem getT_any (b0 g : Nat) (v : Value) (l : List PT) (k : ByteArray) (w : World) (h : TbT b0 w g v l) (hl : l.length ≤ 1000000000) :
    Calls Tryz.prog 68 #[.pointer (some ⟨g, 0, none⟩), kT k] w (GotT (gtT l k) w) :=
  (getT_same b0 g v l k w h hl).mono fun e w' ⟨h1, h2⟩ => ⟨h1, by subst h2; exact Fr.refl _ _⟩
end Go.Proofs.YtdjaalkbpdmdgaaGreat
namespace Go.Proofs.YtdjaalkbpdmdgaaGreat
open Go.RowKit
set_option linter.unusedVariables false

/-- The rear part moved back by one element: l[at:] from l[at+1:]; the last one stays. -/
theorem copy_backT {P : Program} {w : World} {b0 : Nat} {tp ts ty : TypeId} {b o n cap at_ : Nat} {xs : List Value} (h : Lst w b0 tp 2 (.slice (some ⟨b, o, none⟩) n cap) n xs) (hat : at_ < n)
    (hu : P.underlying ts = some (.slice tp)) (hs : (P.info? tp).map (·.size) = some 2) (h1 : ∀ v ∈ xs, v.oneCell' = true) :
    ∃ w', (Builtin.copy_ #[ts, ts] ty #[.slice (some ⟨b, o + at_ * 2, none⟩) (n - at_) (cap - at_), .slice (some ⟨b, if cap = at_ + 1 then o else o + (at_ + 1) * 2, none⟩) (n - (at_ + 1)) (cap - (at_ + 1))]).run P w = .ok (goInt ((n - (at_ + 1) : Nat) : Int)) w' ∧
      Lst w' b0 tp 2 (.slice (some ⟨b, o, none⟩) n cap) n (xs.take (at_ * 2) ++ xs.drop ((at_ + 1) * 2) ++ xs.drop ((n - 1) * 2)) ∧ Fr [b] w w' := by
  have hlen := h.1
  rcases h.2 with ⟨hv, _⟩ | ⟨g', off', cap', cur, hv, hb, hg, hnc, hcm, hsz, ht⟩
  · cases hv
  · injection hv with hv1 hv2 hv3
    injection hv1 with hv1
    injection hv1 with e1 e2
    subst e1 e2 hv3
    obtain ⟨cs, hcs⟩ : ∃ cs, xs.drop ((at_ + 1) * 2) = cs := ⟨_, rfl⟩
    have hcl : cs.length = (n - (at_ + 1)) * 2 := by rw [← hcs, List.length_drop, hlen]; omega
    have hmin : Nat.min (n - (at_ + 1)) (n - at_) = n - (at_ + 1) := by show min _ _ = _; omega
    have hcell : ∀ j v, cs[j]? = some v → w.cell? ((⟨b, if cap = at_ + 1 then o else o + (at_ + 1) * 2, none⟩ : Addr).add j) = some v := by
      intro j v hj
      have hjl := (List.getElem?_eq_some_iff.1 hj).1
      rw [if_neg (by omega)]
      have hadd : (⟨b, o + (at_ + 1) * 2, none⟩ : Addr).add j = ⟨b, o + (at_ + 1) * 2 + j, none⟩ := by unfold Addr.add; split <;> simp_all
      rw [hadd, cell_of_row w b (o + (at_ + 1) * 2 + j) cur tp (0, 0) hg]
      rw [← hcs, List.getElem?_drop, ← ht, List.getElem?_take] at hj
      split at hj
      · rw [List.getElem?_drop] at hj
        rw [← Array.getElem?_toList, Nat.add_assoc]
        exact hj
      · cases hj
    have hone : ∀ v ∈ cs, v.oneCell' = true := fun v hv => h1 v (List.mem_of_mem_drop (hcs ▸ hv))
    have hmul : n * 2 ≤ cap * 2 := Nat.mul_le_mul_right _ hnc
    have hrun := run_copy_rowS (P := P) w ts ts ty tp 2 b (o + at_ * 2) (n - at_) (cap - at_) ⟨b, if cap = at_ + 1 then o else o + (at_ + 1) * 2, none⟩ (n - (at_ + 1)) (cap - (at_ + 1)) cur tp cs hu hs hg (by rw [hmin, hcl]) hcell (by rw [hcl]; omega) hone
    rw [hmin] at hrun
    refine ⟨_, hrun, ⟨?_, .inr ⟨b, o, cap, _, rfl, hb, setRow_heap w b cur _ tp _ hg, hnc, hcm, ?_, ?_⟩⟩, ⟨rfl, rfl, rfl, by simp, fun i _ hi => setRow_other w b i _ (by simpa using hi)⟩⟩
    · rw [hcs, List.length_append, List.length_append, List.length_take, List.length_drop, hlen, hcl]
      omega
    · simp only [List.size_toArray, List.length_append, List.length_take, List.length_drop, Array.length_toList]
      rw [hcl]
      omega
    · rw [hcs]
      have hxi : ∀ j, j < n * 2 → xs[j]? = cur.toList[o + j]? := fun j hj => by
        rw [← ht, List.getElem?_take, if_pos hj, List.getElem?_drop]
      have hl1 : (List.take (o + at_ * 2) cur.toList).length = o + at_ * 2 := by rw [List.length_take, Array.length_toList]; omega
      have hl2 : (List.take (at_ * 2) xs).length = at_ * 2 := by rw [List.length_take, hlen]; omega
      apply List.ext_getElem?
      intro i
      rw [List.getElem?_take]
      by_cases hi : i < n * 2
      · rw [if_pos hi, List.getElem?_drop, List.append_assoc, List.append_assoc]
        by_cases hi2 : i < at_ * 2
        · rw [List.getElem?_append_left (by rw [hl1]; omega), List.getElem?_append_left (by rw [hl2]; exact hi2), List.getElem?_take, if_pos (by omega), List.getElem?_take, if_pos hi2, hxi i hi]
        · have hR : (List.take (at_ * 2) xs ++ (cs ++ xs.drop ((n - 1) * 2)))[i]? = (cs ++ xs.drop ((n - 1) * 2))[i - at_ * 2]? := by
            rw [List.getElem?_append_right (by rw [hl2]; omega), hl2]
          rw [hR, List.getElem?_append_right (by rw [hl1]; omega), hl1, show o + i - (o + at_ * 2) = i - at_ * 2 by omega]
          by_cases hi3 : i < (n - 1) * 2
          · rw [List.getElem?_append_left (by rw [hcl]; omega), List.getElem?_append_left (by rw [hcl]; omega)]
          · rw [List.getElem?_append_right (by rw [hcl]; omega), List.getElem?_append_right (by rw [hcl]; omega), List.getElem?_drop, List.getElem?_drop, hcl]
            rw [hxi _ (by omega)]
            congr 1
            omega
      · rw [if_neg hi, List.getElem?_eq_none]
        rw [List.length_append, List.length_append, hl2, hcl, List.length_drop, hlen]
        omega

/-- The list without the key. -/
def tdropT (l : List PT) (k : ByteArray) : List PT := if pbT l k then l.take (plT l k) ++ l.drop (plT l k + 1) else l

set_option maxHeartbeats 1600000 in
theorem dropT_no (b0 g : Nat) (v : Value) (l : List PT) (k : ByteArray) (w : World) (h : TbT b0 w g v l) (hl : l.length ≤ 1000000000) (hb : pbT l k = false) :
    Calls Tryz.prog 70 #[.pointer (some ⟨g, 0, none⟩), kT k] w (TbTTo b0 g v (tdropT l k) (.bool false) w) := by
  have HPL : Hid (Calls Tryz.prog 95 #[v, kT k] w fun e w' => e = .returned (.tuple #[.int .i64 (plT l k : Nat), .bool (pbT l k)]) ∧ w = w') := placeT b0 _ l k w h.L (by omega)
  have e : tdropT l k = l := by unfold tdropT; rw [if_neg (by rw [hb]; simp)]
  rw [e]
  rw [hb] at HPL
  have c0 : w.cell? ⟨g, 0, none⟩ = some v := h.B.cell 0
  have H := Lib.hid h
  clear h hb e hl
  unfold kT at *
  go_enter Tryz.func70, Tryz.ntmps70
  go_wp2_with fail
  refine (Calls.mono HPL.out ?_)
  rintro e w1 ⟨rfl, rfl⟩
  go_wp2_with fail
  go_ret
  exact ⟨rfl, v, H.out, Fr.refl _ _, fun x hx => .inl hx⟩

set_option maxRecDepth 100000 in
set_option maxHeartbeats 1600000 in
theorem dropT_yes (b0 g : Nat) (v : Value) (l : List PT) (k : ByteArray) (w : World) (h : TbT b0 w g v l) (hl : l.length ≤ 1000000000) (hb : pbT l k = true) :
    Calls Tryz.prog 70 #[.pointer (some ⟨g, 0, none⟩), kT k] w (TbTTo b0 g v (tdropT l k) (.bool true) w) := by
  have HPL : Hid (Calls Tryz.prog 95 #[v, kT k] w fun e w' => e = .returned (.tuple #[.int .i64 (plT l k : Nat), .bool (pbT l k)]) ∧ w = w') := placeT b0 _ l k w h.L (by omega)
  obtain ⟨Q, hQ⟩ : ∃ Q, plT l k = Q := ⟨_, rfl⟩
  have hres : tdropT l k = l.take Q ++ l.drop (Q + 1) := by unfold tdropT; rw [if_pos hb, hQ]
  have hp1 := hb
  unfold pbT at hp1
  have hlt : Q < l.length := by
    cases hh : l[plT l k]? with
    | none => rw [hh] at hp1; cases hp1
    | some p => rw [← hQ]; exact (List.getElem?_eq_some_iff.1 hh).1
  rw [hQ, hb] at HPL
  obtain ⟨n, hn⟩ : ∃ n, l.length = n := ⟨_, rfl⟩
  have hL := h.L
  rw [hn] at hL hl hlt
  have hne : ∀ j, v.ownBlock = some j → j ≠ g := hL.ne_bk h.B (by decide)
  obtain ⟨b, o, cp, rfl, hbb, hbl, hnc, hcm, _, hfz, _⟩ := hL.form (by omega)
  have hbg : b ≠ g := hne b rfl
  have c0 : w.cell? ⟨g, 0, none⟩ = some (.slice (some ⟨b, o, none⟩) n cp) := h.B.cell 0
  have HB := Lib.hid h.B
  have HGB := Lib.hid h.b
  have HL := Lib.hid hL
  have HRES := Lib.hid hres
  have HN := Lib.hid hn
  have hcl : cp ≤ 9223372036854775807 := by unfold maxLen at hcm; omega
  clear h hb hL hQ hres hn hp1 hne hfz hcm
  obtain ⟨z, hz⟩ : ∃ z, z = w.drew := ⟨_, rfl⟩
  have HZ := Lib.hid hz
  have HBz : Hid (Bk z g 130 #[.slice (some ⟨b, o, none⟩) n cp]) := by rw [hz]; exact HB.out.drew
  have HLz : Hid (Lst z b0 145 2 (.slice (some ⟨b, o, none⟩) n cp) n (cellsT l)) := by rw [hz]; exact HL.out.drew
  have HFz : Hid (Fr (skT g (.slice (some ⟨b, o, none⟩) n cp)) w z) := by rw [hz]; exact (Fr.refl _ _).drew
  have cgz : z.cell? ⟨g, 0, none⟩ = some (.slice (some ⟨b, o, none⟩) n cp) := HBz.out.cell 0
  obtain ⟨w8, hcp, hL8, hf8⟩ := copy_backT (P := Tryz.prog) (ts := 128) (ty := 3) HLz.out hlt Tryz.underlying128 pairT_size (fun u hu => cells2_one _ _ (fun _ => rfl) (fun _ => rfl) l u hu)
  have i0 : (0 : Int) ≤ (Q : Int) := by omega
  have i1 : (0 : Int) ≤ (Q : Int) + 1 := by omega
  have i2 : (Q : Int) + 1 ≤ (n : Int) := by omega
  have i3 : (Q : Int) ≤ (n : Int) := by omega
  have i4 : IntKind.i64.wrap ((Q : Int) + 1) = (Q : Int) + 1 := IntWalk.i64_in _ (by omega)
  have i5 : ((Q : Int) + 1).toNat = Q + 1 := by omega
  have i6 : (Q : Int) + 1 ≤ (cp : Int) := by omega
  have i7 : (Q : Int) ≤ (cp : Int) := by omega
  have i11 : cp ≠ Q := by omega
  obtain ⟨r, hr⟩ : ∃ r, n = r + 1 := ⟨n - 1, by omega⟩
  have j1 : (n : Int) - 1 = (r : Int) := by omega
  have j2 : IntKind.i64.wrap ((n : Int) - 1) = (r : Int) := by rw [j1]; exact IntWalk.i64_in _ (by omega)
  have j6 : IntKind.i64.wrap (r : Int) = (r : Int) := IntWalk.i64_in _ (by omega)
  have j3 : (0 : Int) ≤ (r : Int) := by omega
  have j4 : (r : Int) < (n : Int) := by omega
  have j5 : (r : Int) ≤ (cp : Int) := by omega
  obtain ⟨b8, o8, cp8, hv8, _, _, _, _, _, hfz8, hcell8⟩ := hL8.form (by omega)
  injection hv8 with e1 _ e2
  injection e1 with e1
  injection e1 with e1 e3 _
  subst e1 e2 e3
  have hlen8 := hL8.1
  obtain ⟨ys, hys⟩ : ∃ ys, (cellsT l).take (Q * 2) ++ (cellsT l).drop ((Q + 1) * 2) ++ (cellsT l).drop ((n - 1) * 2) = ys := ⟨_, rfl⟩
  rw [hys] at hL8 hcell8 hlen8
  obtain ⟨u0, hu0⟩ : ∃ u, ys[r * 2]? = some u := ⟨_, List.getElem?_eq_getElem (by omega)⟩
  obtain ⟨u1, hu1⟩ : ∃ u, ys[r * 2 + 1]? = some u := ⟨_, List.getElem?_eq_getElem (by omega)⟩
  have cq0 := hcell8 _ _ hu0
  have cq1 := hcell8 _ _ hu1
  rw [← Nat.add_assoc] at cq1
  have fq0 := hfz8 (o + r * 2)
  have fq1 := hfz8 (o + r * 2 + 1)
  have hB8 : Bk w8 g 130 #[.slice (some ⟨b, o, none⟩) n cp] := HBz.out.fr hf8 (by simpa using hbg.symm)
  have c8 := hB8.cell 0
  have f8 := hB8.free 0
  have hgb : g ≠ b := hbg.symm
  have HL8 := Lib.hid hL8
  have HB8 := Lib.hid hB8
  have HF8 : Hid (Fr (skT g (.slice (some ⟨b, o, none⟩) n cp)) w w8) := HFz.out.trans hf8 (fun j hj => .inl (by have : j = b := (by simpa using hj); subst this; simp [skT, Value.ownBlock]))
  have HYS := Lib.hid hys
  have HRR := Lib.hid hr
  clear hcell8 hfz8 hlen8 hL8 hf8 hB8 hu0 hu1 hys hr hz
  have HEND : Hid (∃ v', TbT b0 ((((w8.drew.setCell ⟨b, o + r * 2, none⟩ (Value.string ⟨#[]⟩)).setCell ⟨b, o + r * 2 + 1, none⟩ (Value.int .i64 0)).drew).setCell ⟨g, 0, none⟩ (.slice (some ⟨b, o, none⟩) r cp)) g v' (tdropT l k) ∧
      Fr (skT g (.slice (some ⟨b, o, none⟩) n cp)) w ((((w8.drew.setCell ⟨b, o + r * 2, none⟩ (Value.string ⟨#[]⟩)).setCell ⟨b, o + r * 2 + 1, none⟩ (Value.int .i64 0)).drew).setCell ⟨g, 0, none⟩ (.slice (some ⟨b, o, none⟩) r cp)) ∧ ∀ j ∈ skT g v', j ∈ skT g (.slice (some ⟨b, o, none⟩) n cp) ∨ w.heap.size ≤ j) := by
    have hgs : g ∈ skT g (.slice (some ⟨b, o, none⟩) n cp) := by simp [skT]
    have hbs : b ∈ skT g (.slice (some ⟨b, o, none⟩) n cp) := by simp [skT, Value.ownBlock]
    have h1 := ((HL8.out.drew.put (j := r * 2) (Value.string ⟨#[]⟩)).put (j := r * 2 + 1) (Value.int .i64 0)).drew.shut (k := r) (by omega)
    rw [← Nat.add_assoc] at h1
    have h2 := h1.far (p := ⟨g, 0, none⟩) (fun j hj => by injection hj with hj; rw [← hj]; exact hbg) (.slice (some ⟨b, o, none⟩) r cp)
    have h3 : (tdropT l k).length = r := by rw [HRES.out, List.length_append, List.length_take, List.length_drop, HN.out]; omega
    have h4 : List.take (r * 2) ((ys.set (r * 2) (Value.string ⟨#[]⟩)).set (r * 2 + 1) (Value.int .i64 0)) = cellsT (tdropT l k) := by
      have hyl : (List.take (r * 2) ys).length ≤ r * 2 := by rw [List.length_take]; omega
      rw [List.take_set, List.take_set, List.set_eq_of_length_le hyl, List.set_eq_of_length_le (by omega), ← HYS.out, HRES.out]
      unfold cellsT
      rw [List.take_left' (by rw [List.length_append, List.length_take, List.length_drop, cells2_length, HN.out]; omega), cells2_append, cells2_take, cells2_drop]
    rw [h4] at h2
    refine ⟨.slice (some ⟨b, o, none⟩) r cp, ⟨?_, ?_, HGB.out⟩, (((((HF8.out.drew).setCell (.inl hbs) _).setCell (.inl hbs) _).drew).setCell (.inl hgs) _), fun j hj => .inl ?_⟩
    · exact ((((HB8.out.drew.far (p := ⟨b, o + r * 2, none⟩) hgb (Value.string ⟨#[]⟩)).far (p := ⟨b, o + r * 2 + 1, none⟩) hgb (Value.int .i64 0)).drew).put 0 (.slice (some ⟨b, o, none⟩) r cp))
    · rw [h3]
      exact h2
    · simpa [skT, Value.ownBlock] using hj
  unfold kT at *
  by_cases hc : cp = Q + 1
  · subst hc
    have e0 : n - (Q + 1) = 0 := by omega
    have j5' : (r : Int) ≤ (Q : Int) + 1 := by omega
    simp only [if_true, Nat.sub_self, Nat.add_sub_cancel_left, e0] at hcp
    clear e0
    go_enter Tryz.func70, Tryz.ntmps70
    go_wp2_with fail
    refine (Calls.mono HPL.out ?_)
    rintro e w1 ⟨rfl, rfl⟩
    go_upto_region 4 with fail
    refine wp_region_still_tail 13 (by kernel_rfl) (by kernel_rfl) ?_
    change wpStill _ _ w.drew _ _ _
    rw [← HZ.out]
    simp only [List.take_succ_cons, List.take_zero, List.drop_succ_cons, List.drop_zero]
    repeat still_step
    refine wpStill_nil ?_
    change wpList _ _ _ _ _ w.drew
    rw [← HZ.out]
    go_wp2_with fail
    obtain ⟨z8, hz8⟩ : ∃ z8, z8 = w8.drew := ⟨_, rfl⟩
    have d0 : z8.cell? ⟨g, 0, none⟩ = some (.slice (some ⟨b, o, none⟩) n (Q + 1)) := by rw [hz8]; exact HB8.out.cell 0
    have d1 : z8.cell? ⟨b, o + r * 2, none⟩ = some u0 := by rw [hz8]; exact cq0
    have d2 : z8.cell? ⟨b, o + r * 2 + 1, none⟩ = some u1 := by rw [hz8]; exact cq1
    have d3 : z8.frozen? ⟨b, o + r * 2, none⟩ = false := by rw [hz8]; exact fq0
    have d4 : z8.frozen? ⟨b, o + r * 2 + 1, none⟩ = false := by rw [hz8]; exact fq1
    have HZ8 := Lib.hid hz8
    clear hz8 c8 cq0 cq1 fq0 fq1 hcp
    refine wp_region_still_tail 12 (by kernel_rfl) (by kernel_rfl) ?_
    change wpStill _ _ w8.drew _ _ _
    rw [← HZ8.out]
    simp only [List.take_succ_cons, List.take_zero, List.drop_succ_cons, List.drop_zero]
    repeat still_step
    refine wpStill_nil ?_
    change wpList _ _ _ _ _ w8.drew
    rw [← HZ8.out]
    go_wp2_with fail
    rw [HZ8.out]
    obtain ⟨yy, hyy⟩ : ∃ yy, yy = (w8.drew.setCell ⟨b, o + r * 2, none⟩ (Value.string ⟨#[]⟩)).setCell ⟨b, o + r * 2 + 1, none⟩ (Value.int .i64 0) := ⟨_, rfl⟩
    obtain ⟨y9, hy9⟩ : ∃ y9, y9 = yy.drew := ⟨_, rfl⟩
    have e0 : y9.cell? ⟨g, 0, none⟩ = some (.slice (some ⟨b, o, none⟩) n (Q + 1)) := by rw [hy9, hyy]; exact (((HB8.out.drew.far (p := ⟨b, o + r * 2, none⟩) hgb (Value.string ⟨#[]⟩)).far (p := ⟨b, o + r * 2 + 1, none⟩) hgb (Value.int .i64 0)).drew).cell 0
    have e1 : y9.frozen? ⟨g, 0, none⟩ = false := by rw [hy9, hyy]; exact (((HB8.out.drew.far (p := ⟨b, o + r * 2, none⟩) hgb (Value.string ⟨#[]⟩)).far (p := ⟨b, o + r * 2 + 1, none⟩) hgb (Value.int .i64 0)).drew).free 0
    rw [← hyy] at HEND ⊢
    rw [← hy9] at HEND
    have HY9 := Lib.hid hy9
    clear hyy hy9 d0 d1 d2 d3 d4
    refine wp_region_still_tail 14 (by kernel_rfl) (by kernel_rfl) ?_
    change wpStill _ _ yy.drew _ _ _
    rw [← HY9.out]
    simp only [List.take_succ_cons, List.take_zero, List.drop_succ_cons, List.drop_zero]
    repeat still_step
    refine wpStill_nil ?_
    change wpList _ _ _ _ _ yy.drew
    rw [← HY9.out]
    go_wp2_with fail
    go_ret
    exact ⟨rfl, HEND.out⟩
  · rw [if_neg hc] at hcp
    go_enter Tryz.func70, Tryz.ntmps70
    go_wp2_with fail
    refine (Calls.mono HPL.out ?_)
    rintro e w1 ⟨rfl, rfl⟩
    go_upto_region 4 with fail
    refine wp_region_still_tail 13 (by kernel_rfl) (by kernel_rfl) ?_
    change wpStill _ _ w.drew _ _ _
    rw [← HZ.out]
    simp only [List.take_succ_cons, List.take_zero, List.drop_succ_cons, List.drop_zero]
    repeat still_step
    refine wpStill_nil ?_
    change wpList _ _ _ _ _ w.drew
    rw [← HZ.out]
    go_wp2_with fail
    obtain ⟨z8, hz8⟩ : ∃ z8, z8 = w8.drew := ⟨_, rfl⟩
    have d0 : z8.cell? ⟨g, 0, none⟩ = some (.slice (some ⟨b, o, none⟩) n cp) := by rw [hz8]; exact HB8.out.cell 0
    have d1 : z8.cell? ⟨b, o + r * 2, none⟩ = some u0 := by rw [hz8]; exact cq0
    have d2 : z8.cell? ⟨b, o + r * 2 + 1, none⟩ = some u1 := by rw [hz8]; exact cq1
    have d3 : z8.frozen? ⟨b, o + r * 2, none⟩ = false := by rw [hz8]; exact fq0
    have d4 : z8.frozen? ⟨b, o + r * 2 + 1, none⟩ = false := by rw [hz8]; exact fq1
    have HZ8 := Lib.hid hz8
    clear hz8 c8 cq0 cq1 fq0 fq1 hcp
    refine wp_region_still_tail 12 (by kernel_rfl) (by kernel_rfl) ?_
    change wpStill _ _ w8.drew _ _ _
    rw [← HZ8.out]
    simp only [List.take_succ_cons, List.take_zero, List.drop_succ_cons, List.drop_zero]
    repeat still_step
    refine wpStill_nil ?_
    change wpList _ _ _ _ _ w8.drew
    rw [← HZ8.out]
    go_wp2_with fail
    rw [HZ8.out]
    obtain ⟨yy, hyy⟩ : ∃ yy, yy = (w8.drew.setCell ⟨b, o + r * 2, none⟩ (Value.string ⟨#[]⟩)).setCell ⟨b, o + r * 2 + 1, none⟩ (Value.int .i64 0) := ⟨_, rfl⟩
    obtain ⟨y9, hy9⟩ : ∃ y9, y9 = yy.drew := ⟨_, rfl⟩
    have e0 : y9.cell? ⟨g, 0, none⟩ = some (.slice (some ⟨b, o, none⟩) n cp) := by rw [hy9, hyy]; exact (((HB8.out.drew.far (p := ⟨b, o + r * 2, none⟩) hgb (Value.string ⟨#[]⟩)).far (p := ⟨b, o + r * 2 + 1, none⟩) hgb (Value.int .i64 0)).drew).cell 0
    have e1 : y9.frozen? ⟨g, 0, none⟩ = false := by rw [hy9, hyy]; exact (((HB8.out.drew.far (p := ⟨b, o + r * 2, none⟩) hgb (Value.string ⟨#[]⟩)).far (p := ⟨b, o + r * 2 + 1, none⟩) hgb (Value.int .i64 0)).drew).free 0
    rw [← hyy] at HEND ⊢
    rw [← hy9] at HEND
    have HY9 := Lib.hid hy9
    clear hyy hy9 d0 d1 d2 d3 d4
    refine wp_region_still_tail 14 (by kernel_rfl) (by kernel_rfl) ?_
    change wpStill _ _ yy.drew _ _ _
    rw [← HY9.out]
    simp only [List.take_succ_cons, List.take_zero, List.drop_succ_cons, List.drop_zero]
    repeat still_step
    refine wpStill_nil ?_
    change wpList _ _ _ _ _ yy.drew
    rw [← HY9.out]
    go_wp2_with fail
    go_ret
    exact ⟨rfl, HEND.out⟩

theorem dropT_any (b0 g : Nat) (v : Value) (l : List PT) (k : ByteArray) (w : World) (h : TbT b0 w g v l) (hl : l.length ≤ 1000000000) :
    Calls Tryz.prog 70 #[.pointer (some ⟨g, 0, none⟩), kT k] w (TbTTo b0 g v (tdropT l k) (.bool (pbT l k)) w) := by
  cases hb : pbT l k with
  | true => exact dropT_yes b0 g v l k w h hl hb
  | false => exact dropT_no b0 g v l k w h hl hb
end Go.Proofs.YtdjaalkbpdmdgaaGreat
namespace Go.Proofs.YtdjaalkbpdmdgaaGreat
set_option linter.unusedVariables false

theorem plT_of {l : List PT} {k : ByteArray} {j : Nat} (h1 : ∀ i p, i < j → l[i]? = some p → p.1 < k) (h2 : ∀ i p, j ≤ i → l[i]? = some p → k ≤ p.1) (hj : j ≤ l.length) : plT l k = j := by
  refine bsF_spec _ j (fun t ht => ?_) (fun t ht => ?_) _ _ _ (by (first | omega | grind)) (Nat.zero_le _) hj
  · unfold lessT
    obtain ⟨p, hp⟩ : ∃ p, l[t]? = some p := ⟨_, List.getElem?_eq_getElem (by (first | omega | grind))⟩
    rw [hp]
    show decide (cmT p.1 k < 0) = true
    rw [cmT_lt]
    exact decide_eq_true (h1 t p ht hp)
  · unfold lessT
    cases hp : l[t]? with
    | none => rfl
    | some p =>
      show decide (cmT p.1 k < 0) = false
      rw [cmT_lt]
      exact decide_eq_false (by have := h2 t p ht hp; (first | omega | grind))
theorem pbT_of {l : List PT} {k : ByteArray} {j : Nat} (h : plT l k = j) : pbT l k = match l[j]? with
  | some p => decide (p.1 = k)
  | none => false := by
  unfold pbT
  rw [h]
  cases l[j]? with
  | none => rfl
  | some p => exact cmT_eq _ _
def RiseT (l : List PT) : Prop := l.Pairwise (fun a b => a.1 < b.1)

theorem RiseT.cut {l : List PT} (h : RiseT l) (k : ByteArray) : ∃ A B, l = A ++ B ∧ (∀ p ∈ A, p.1 < k) ∧ (∀ p ∈ B, k ≤ p.1) ∧ plT l k = A.length := by
  induction l with
  | nil => exact ⟨[], [], rfl, by simp, by simp, rfl⟩
  | cons q l ih =>
    have hq := List.pairwise_cons.1 h
    by_cases hk : q.1 < k
    · obtain ⟨A, B, rfl, h1, h2, _⟩ := ih hq.2
      refine ⟨q :: A, B, rfl, ?_, h2, ?_⟩
      · intro p hp
        rcases List.mem_cons.1 hp with rfl | hp
        · exact hk
        · exact h1 p hp
      · refine plT_of (fun i p hi hp => ?_) (fun i p hi hp => ?_) (by simp)
        · rw [← List.cons_append, List.getElem?_append_left hi] at hp
          rcases List.mem_cons.1 (List.mem_of_getElem? hp) with rfl | hp
          · exact hk
          · exact h1 p hp
        · rw [← List.cons_append, List.getElem?_append_right hi] at hp
          exact h2 p (List.mem_of_getElem? hp)
    · refine ⟨[], q :: l, rfl, by simp, ?_, ?_⟩
      · intro p hp
        rcases List.mem_cons.1 hp with rfl | hp
        · (first | omega | grind)
        · have := hq.1 p hp; (first | omega | grind)
      · refine plT_of (fun i p hi hp => by simp at hi) (fun i p hi hp => ?_) (by simp)
        rcases List.mem_cons.1 (List.mem_of_getElem? hp) with rfl | hp
        · (first | omega | grind)
        · have := hq.1 p hp; (first | omega | grind)

/-- What stands where the key belongs. -/
theorem RiseT.at {l : List PT} (h : RiseT l) (k : ByteArray) : (∃ A v B, l = A ++ (k, v) :: B ∧ (∀ p ∈ A, p.1 < k) ∧ (∀ p ∈ B, k < p.1) ∧ plT l k = A.length ∧ pbT l k = true) ∨
    (∃ A B, l = A ++ B ∧ (∀ p ∈ A, p.1 < k) ∧ (∀ p ∈ B, k < p.1) ∧ plT l k = A.length ∧ pbT l k = false) := by
  obtain ⟨A, B, rfl, h1, h2, h3⟩ := h.cut k
  have hB := (List.pairwise_append.1 h).2.1
  cases B with
  | nil =>
    refine .inr ⟨A, [], rfl, h1, by simp, h3, ?_⟩
    rw [pbT_of h3, List.getElem?_eq_none (by simp)]
  | cons q B =>
    have hq := List.pairwise_cons.1 hB
    have hc : (A ++ q :: B)[A.length]? = some q := by rw [List.getElem?_append_right (Nat.le_refl _)]; simp
    by_cases he : q.1 = k
    · subst he
      refine .inl ⟨A, q.2, B, rfl, h1, hq.1, h3, ?_⟩
      rw [pbT_of h3, hc]
      exact decide_eq_true rfl
    · refine .inr ⟨A, q :: B, rfl, h1, ?_, h3, ?_⟩
      · intro p hp
        have hqk := h2 q (by simp)
        rcases List.mem_cons.1 hp with rfl | hp
        · (first | omega | grind)
        · have := hq.1 p hp; (first | omega | grind)
      · rw [pbT_of h3, hc]
        exact decide_eq_false he

theorem rise_joinT {A B : List PT} {k : ByteArray} {v : Int} (h : RiseT (A ++ B)) (h1 : ∀ p ∈ A, p.1 < k) (h2 : ∀ p ∈ B, k < p.1) : RiseT (A ++ (k, v) :: B) := by
  obtain ⟨a, b, c⟩ := List.pairwise_append.1 h
  refine List.pairwise_append.2 ⟨a, List.pairwise_cons.2 ⟨h2, b⟩, fun p hp q hq => ?_⟩
  rcases List.mem_cons.1 hq with rfl | hq
  · exact h1 p hp
  · exact c p hp q hq
theorem rise_partT {A B : List PT} {q : PT} (h : RiseT (A ++ q :: B)) : RiseT (A ++ B) := by
  obtain ⟨a, b, c⟩ := List.pairwise_append.1 h
  exact List.pairwise_append.2 ⟨a, (List.pairwise_cons.1 b).2, fun p hp r hr => c p hp r (List.mem_cons_of_mem _ hr)⟩

theorem rise_setT {l : List PT} (h : RiseT l) (k : ByteArray) (v : Int) : RiseT (tsetT l k v) ∧ ∀ p, p ∈ tsetT l k v ↔ p = (k, v) ∨ (p.1 ≠ k ∧ p ∈ l) := by
  rcases h.at k with ⟨A, u, B, rfl, h1, h2, h3, h4⟩ | ⟨A, B, rfl, h1, h2, h3, h4⟩
  · have e : tsetT (A ++ (k, u) :: B) k v = A ++ (k, v) :: B := by
      unfold tsetT
      rw [if_pos h4, h3, List.getElem?_append_right (Nat.le_refl _)]
      simp
    rw [e]
    refine ⟨rise_joinT (rise_partT h) h1 h2, fun p => ?_⟩
    simp only [List.mem_append, List.mem_cons]
    constructor
    · rintro (hp | rfl | hp)
      · exact .inr ⟨by have := h1 p hp; (first | omega | grind), .inl hp⟩
      · exact .inl rfl
      · exact .inr ⟨by have := h2 p hp; (first | omega | grind), .inr (.inr hp)⟩
    · rintro (rfl | ⟨hk, hp | rfl | hp⟩)
      · exact .inr (.inl rfl)
      · exact .inl hp
      · exact absurd rfl hk
      · exact .inr (.inr hp)
  · have e : tsetT (A ++ B) k v = A ++ (k, v) :: B := by
      unfold tsetT
      rw [if_neg (by rw [h4]; simp), h3]
      simp
    rw [e]
    refine ⟨rise_joinT h h1 h2, fun p => ?_⟩
    simp only [List.mem_append, List.mem_cons]
    constructor
    · rintro (hp | rfl | hp)
      · exact .inr ⟨by have := h1 p hp; (first | omega | grind), .inl hp⟩
      · exact .inl rfl
      · exact .inr ⟨by have := h2 p hp; (first | omega | grind), .inr hp⟩
    · rintro (rfl | ⟨hk, hp | hp⟩)
      · exact .inr (.inl rfl)
      · exact .inl hp
      · exact .inr (.inr hp)
theorem rise_dropT {l : List PT} (h : RiseT l) (k : ByteArray) : RiseT (tdropT l k) ∧ ∀ p, p ∈ tdropT l k ↔ p.1 ≠ k ∧ p ∈ l := by
  rcases h.at k with ⟨A, u, B, rfl, h1, h2, h3, h4⟩ | ⟨A, B, rfl, h1, h2, h3, h4⟩
  · have e : tdropT (A ++ (k, u) :: B) k = A ++ B := by
      unfold tdropT
      rw [if_pos h4, h3]
      simp
    rw [e]
    refine ⟨rise_partT h, fun p => ?_⟩
    simp only [List.mem_append, List.mem_cons]
    constructor
    · rintro (hp | hp)
      · exact ⟨by have := h1 p hp; (first | omega | grind), .inl hp⟩
      · exact ⟨by have := h2 p hp; (first | omega | grind), .inr (.inr hp)⟩
    · rintro ⟨hk, hp | rfl | hp⟩
      · exact .inl hp
      · exact absurd rfl hk
      · exact .inr hp
  · have e : tdropT (A ++ B) k = A ++ B := by
      unfold tdropT
      rw [if_neg (by rw [h4]; simp)]
    rw [e]
    refine ⟨h, fun p => ?_⟩
    simp only [List.mem_append]
    constructor
    · rintro (hp | hp)
      · exact ⟨by have := h1 p hp; (first | omega | grind), .inl hp⟩
      · exact ⟨by have := h2 p hp; (first | omega | grind), .inr hp⟩
    · rintro ⟨_, hp⟩
      exact hp
theorem rise_getT {l : List PT} (h : RiseT l) (k : ByteArray) (v : Int) : gtT l k = some v ↔ (k, v) ∈ l := by
  rcases h.at k with ⟨A, u, B, rfl, h1, h2, h3, h4⟩ | ⟨A, B, rfl, h1, h2, h3, h4⟩
  · have e : gtT (A ++ (k, u) :: B) k = some u := by
      unfold gtT
      rw [if_pos h4, h3, List.getElem?_append_right (Nat.le_refl _)]
      simp
    rw [e]
    simp only [List.mem_append, List.mem_cons, Prod.mk.injEq, true_and, Option.some.injEq]
    constructor
    · rintro rfl; exact .inr (.inl rfl)
    · rintro (hp | rfl | hp)
      · have := h1 _ hp; simp [ltB_irrefl] at this
      · rfl
      · have := h2 _ hp; simp [ltB_irrefl] at this
  · have e : gtT (A ++ B) k = none := by
      unfold gtT
      rw [if_neg (by rw [h4]; simp)]
    rw [e]
    simp only [List.mem_append, reduceCtorEq, false_iff, not_or]
    exact ⟨fun hp => by have := h1 _ hp; simp [ltB_irrefl] at this, fun hp => by have := h2 _ hp; simp [ltB_irrefl] at this⟩
/-- The last key not above k, of those gone through. -/
def nearKT (l : List PT) (k : ByteArray) : Option ByteArray := l.foldl (fun s p => if p.1 ≤ k then some p.1 else s) none
theorem nearK_snocT (l : List PT) (p : PT) (k : ByteArray) : nearKT (l ++ [p]) k = if p.1 ≤ k then some p.1 else nearKT l k := by
  unfold nearKT
  rw [List.foldl_append]
  rfl
theorem nearK_skipT (k : ByteArray) : ∀ (B : List PT) (s : Option ByteArray), (∀ p ∈ B, k < p.1) → B.foldl (fun s p => if p.1 ≤ k then some p.1 else s) s = s
  | [], s, _ => rfl
  | q :: B, s, h => by
    rw [List.foldl_cons, if_neg (by have := h q (by simp); (first | omega | grind))]
    exact nearK_skipT k B s (fun p hp => h p (by simp [hp]))
theorem rise_nearT {l : List PT} (h : RiseT l) (k : ByteArray) : (nrT l k).map (·.1) = nearKT l k := by
  rcases h.at k with ⟨A, u, B, rfl, h1, h2, h3, h4⟩ | ⟨A, B, rfl, h1, h2, h3, h4⟩
  · have e : nrT (A ++ (k, u) :: B) k = some (k, u) := by
      unfold nrT
      rw [if_pos h4, h3, List.getElem?_append_right (Nat.le_refl _)]
      simp
    rw [e]
    unfold nearKT
    rw [List.foldl_append, List.foldl_cons, if_pos (leB_refl _), nearK_skipT k B _ h2]
    rfl
  · have hn : nearKT (A ++ B) k = nearKT A k := by
      unfold nearKT
      rw [List.foldl_append, nearK_skipT k B _ h2]
    rw [hn]
    unfold nrT
    rw [if_neg (by rw [h4]; simp), h3]
    rcases List.eq_nil_or_concat A with rfl | ⟨A', q, rfl⟩
    · rfl
    · have hq : q.1 ≤ k := by have := h1 q (by simp); (first | omega | grind)
      rw [List.concat_eq_append, nearK_snocT, if_pos hq, if_neg (show ¬ (A' ++ [q]).length = 0 by simp)]
      simp
theorem nrT_none {l : List PT} (h : RiseT l) {k : ByteArray} (hn : nearKT l k = none) : nrT l k = none := by
  have := rise_nearT h k
  rw [hn] at this
  cases hh : nrT l k with
  | none => rfl
  | some p => rw [hh] at this; cases this
theorem nrT_some {l : List PT} (h : RiseT l) {k q : ByteArray} (hn : nearKT l k = some q) : ∃ u, nrT l k = some (q, u) := by
  have := rise_nearT h k
  rw [hn] at this
  cases hh : nrT l k with
  | none => rw [hh] at this; cases this
  | some p => rw [hh] at this; injection this with this; subst this; exact ⟨p.2, rfl⟩

end Go.Proofs.YtdjaalkbpdmdgaaGreat
