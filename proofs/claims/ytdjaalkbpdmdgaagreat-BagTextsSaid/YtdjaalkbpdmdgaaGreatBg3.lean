/-
  Bag: tables: New, Len, Set, Near.
-/
import Derived.Test.YtdjaalkbpdmdgaaGreatBg2
import Derived.Laws.CopyRow
import Derived.StillTailTactics
import Derived.Deep.RegionHeld3
namespace Go.Proofs.YtdjaalkbpdmdgaaGreat
open Go.RowKit
set_option linter.unusedVariables false

/-- A copy within rows of elements of so many cells. -/
theorem run_copy_rowS {P : Program} (w : World) (dT sT ty elem : TypeId) (s : Nat) (g o dLen dCap : Nat) (a : Addr) (sLen sCap : Nat) (cur : Array Value) (t : TypeId) (cs : List Value)
    (hu : P.underlying dT = some (.slice elem)) (hs : (P.info? elem).map (·.size) = some s)
    (hg : w.heap[g]? = some (.cells cur t (0, 0))) (hn : cs.length = Nat.min sLen dLen * s)
    (hsrc : ∀ j v, cs[j]? = some v → w.cell? (a.add j) = some v) (hfit : o + cs.length ≤ cur.size) (h1 : ∀ v ∈ cs, v.oneCell' = true) :
    (Builtin.copy_ #[dT, sT] ty #[.slice (some ⟨g, o, none⟩) dLen dCap, .slice (some a) sLen sCap]).run P w =
      .ok (goInt (Nat.min sLen dLen)) (w.setRow g (cur.toList.take o ++ cs ++ cur.toList.drop (o + cs.length)).toArray) := by
  have hl := run_loadCells_list (P := P) w a cs hsrc
  have hst := run_storeCells_at P g o t cs 0 cur w hg (by simpa using hfit) h1
  cases hq : P.info? elem with
  | none => simp [hq] at hs
  | some i =>
    have hi : i.size = s := by simpa [hq] using hs
    simp [Builtin.copy_, run_underlying hu, Builtin.lenOf, Builtin.firstCells, sizeOf, typeInfo, hq, hi, ← hn, hl, hst]

theorem cells2_set {α : Type} (f g : α → Value) : ∀ (l : List α) (i : Nat) (p : α), (∀ q, l[i]? = some q → f q = f p) → (cells2 f g l).set (i * 2 + 1) (g p) = cells2 f g (l.set i p)
  | [], i, p, h => by simp [cells2]
  | q :: l, 0, p, h => by
    have : f q = f p := h q rfl
    simp [cells2, this]
  | q :: l, i + 1, p, h => by
    rw [show (i + 1) * 2 + 1 = i * 2 + 1 + 1 + 1 by omega]
    simp only [cells2, List.set_cons_succ]
    rw [cells2_set f g l i p (fun q hq => h q (by simpa using hq))]
theorem cells2_one {α : Type} (f g : α → Value) (hf : ∀ p, (f p).oneCell' = true) (hg : ∀ p, (g p).oneCell' = true) : ∀ (l : List α), ∀ v ∈ cells2 f g l, v.oneCell' = true
  | [], v, h => by simp [cells2] at h
  | p :: l, v, h => by
    simp only [cells2, List.mem_cons] at h
    rcases h with rfl | rfl | h
    · exact hf p
    · exact hg p
    · exact cells2_one f g hf hg l v h

/-- The rear part moved on by one element: l[at+1:] from l[at:], where one more element (the last) is there to be lost. -/
theorem copy_on {P : Program} {w : World} {b0 : Nat} {tp ts ty : TypeId} {b o n cap at_ : Nat} {xs : List Value} (h : Lst w b0 tp 2 (.slice (some ⟨b, o, none⟩) (n + 1) cap) (n + 1) xs) (hat : at_ ≤ n)
    (hu : P.underlying ts = some (.slice tp)) (hs : (P.info? tp).map (·.size) = some 2) (h1 : ∀ v ∈ xs, v.oneCell' = true) :
    ∃ w', (Builtin.copy_ #[ts, ts] ty #[.slice (some ⟨b, if cap = at_ + 1 then o else o + (at_ + 1) * 2, none⟩) (n - at_) (cap - (at_ + 1)), .slice (some ⟨b, o + at_ * 2, none⟩) (n + 1 - at_) (cap - at_)]).run P w = .ok (goInt ((n - at_ : Nat) : Int)) w' ∧
      Lst w' b0 tp 2 (.slice (some ⟨b, o, none⟩) (n + 1) cap) (n + 1) (xs.take ((at_ + 1) * 2) ++ (xs.drop (at_ * 2)).take ((n - at_) * 2)) ∧ Fr [b] w w' := by
  have hlen := h.1
  rcases h.2 with ⟨hv, _⟩ | ⟨g', off', cap', cur, hv, hb, hg, hnc, hcm, hsz, ht⟩
  · cases hv
  · injection hv with hv1 hv2 hv3
    injection hv1 with hv1
    injection hv1 with e1 e2
    subst e1 e2 hv3
    obtain ⟨cs, hcs⟩ : ∃ cs, (xs.drop (at_ * 2)).take ((n - at_) * 2) = cs := ⟨_, rfl⟩
    have hcl : cs.length = (n - at_) * 2 := by rw [← hcs, List.length_take, List.length_drop, hlen]; omega
    have hmin : Nat.min (n + 1 - at_) (n - at_) = n - at_ := by show min _ _ = _; omega
    have hcell : ∀ j v, cs[j]? = some v → w.cell? ((⟨b, o + at_ * 2, none⟩ : Addr).add j) = some v := by
      intro j v hj
      have hadd : (⟨b, o + at_ * 2, none⟩ : Addr).add j = ⟨b, o + at_ * 2 + j, none⟩ := by unfold Addr.add; split <;> simp_all
      rw [hadd, cell_of_row w b (o + at_ * 2 + j) cur tp (0, 0) hg]
      rw [← hcs, List.getElem?_take] at hj
      split at hj
      · rw [List.getElem?_drop, ← ht, List.getElem?_take] at hj
        split at hj
        · rw [List.getElem?_drop] at hj
          rw [← Array.getElem?_toList, Nat.add_assoc]
          exact hj
        · cases hj
      · cases hj
    have hone : ∀ v ∈ cs, v.oneCell' = true := fun v hv => h1 v (List.mem_of_mem_drop (List.mem_of_mem_take (hcs ▸ hv)))
    have hrun := run_copy_rowS (P := P) w ts ts ty tp 2 b (if cap = at_ + 1 then o else o + (at_ + 1) * 2) (n - at_) (cap - (at_ + 1)) ⟨b, o + at_ * 2, none⟩ (n + 1 - at_) (cap - at_) cur tp cs hu hs hg (by rw [hmin, hcl]) hcell ?hf hone
    case hf =>
      have : (n + 1) * 2 ≤ cap * 2 := Nat.mul_le_mul_right _ hnc
      rw [hcl]
      split <;> omega
    rw [hmin] at hrun
    refine ⟨_, hrun, ⟨?_, .inr ⟨b, o, cap, _, rfl, hb, setRow_heap w b cur _ tp _ hg, hnc, hcm, ?_, ?_⟩⟩, ⟨rfl, rfl, rfl, by simp, fun i _ hi => setRow_other w b i _ (by simpa using hi)⟩⟩
    · rw [List.length_append, List.length_take, hlen, hcs, hcl]
      omega
    · simp only [List.size_toArray, List.length_append, List.length_take, List.length_drop, Array.length_toList]
      have : (n + 1) * 2 ≤ cap * 2 := Nat.mul_le_mul_right _ hnc
      rw [hcl]
      split <;> omega
    · have hmul : (n + 1) * 2 ≤ cap * 2 := Nat.mul_le_mul_right _ hnc
      rw [hcs]
      by_cases hat1 : at_ = n
      · subst hat1
        have hcs0 : cs = [] := List.eq_nil_of_length_eq_zero (by rw [hcl, Nat.sub_self, Nat.zero_mul])
        rw [hcs0]
        simp only [List.append_nil, List.length_nil, Nat.add_zero, List.take_append_drop]
        rw [ht, List.take_of_length_le (by rw [hlen]; exact Nat.le_refl _)]
      · have hne : cap ≠ at_ + 1 := by omega
        rw [if_neg hne]
        have hxi : ∀ j, j < (n + 1) * 2 → xs[j]? = cur.toList[o + j]? := fun j hj => by
          rw [← ht, List.getElem?_take, if_pos hj, List.getElem?_drop]
        have hl1 : (List.take (o + (at_ + 1) * 2) cur.toList).length = o + (at_ + 1) * 2 := by rw [List.length_take, Array.length_toList]; omega
        have hl2 : (List.take ((at_ + 1) * 2) xs).length = (at_ + 1) * 2 := by rw [List.length_take, hlen]; omega
        apply List.ext_getElem?
        intro i
        rw [List.getElem?_take]
        by_cases hi : i < (n + 1) * 2
        · rw [if_pos hi, List.getElem?_drop, List.append_assoc]
          by_cases hi2 : i < (at_ + 1) * 2
          · rw [List.getElem?_append_left (by rw [hl1]; omega), List.getElem?_append_left (by rw [hl2]; exact hi2), List.getElem?_take, if_pos (by omega), List.getElem?_take, if_pos hi2, hxi i hi]
          · rw [List.getElem?_append_right (by rw [hl1]; omega), hl1, List.getElem?_append_left (by rw [hcl]; omega), List.getElem?_append_right (by rw [hl2]; omega), hl2]
            congr 1
            omega
        · rw [if_neg hi, List.getElem?_eq_none]
          rw [List.length_append, hl2, hcl]
          omega

/-! ### int,uint64 -/
theorem pairN_info : (Tryz.prog.info? 138).map (fun i => (i.zero, i.size, i.bytes)) = some (some (.agg #[.int .i64 0, .int .u64 0]), 2, 16) := by kernel_rfl
theorem pairN_size : (Tryz.prog.info? 138).map (·.size) = some 2 := by kernel_rfl

structure TbN (b0 : Nat) (w : World) (g : Nat) (v : Value) (l : List PN) : Prop where
  B : Bk w g 127 #[v]
  L : Lst w b0 138 2 v l.length (cellsN l)
  b : b0 ≤ g
theorem TbN.fr {b0 : Nat} {w w' : World} {g : Nat} {v : Value} {l : List PN} {S : List Nat} (h : TbN b0 w g v l) (hf : Fr S w w') (h1 : g ∉ S) (h2 : ∀ k, v.ownBlock = some k → k ∉ S) : TbN b0 w' g v l :=
  ⟨h.B.fr hf h1, h.L.fr hf h2, h.b⟩
def TbNTo (b0 : Nat) (g : Nat) (v : Value) (l' : List PN) (r : Value) (w : World) (e : Ending) (w' : World) : Prop :=
  e = .returned r ∧ ∃ v', TbN b0 w' g v' l' ∧ Fr (skT g v) w w' ∧ ∀ x ∈ skT g v', x ∈ skT g v ∨ w.heap.size ≤ x

def tbNNew (b0 : Nat) (w : World) (e : Ending) (w' : World) : Prop := ∃ g, e = .returned (.pointer (some ⟨g, 0, none⟩)) ∧ TbN b0 w' g (.slice none 0 0) [] ∧ Fr [] w w' ∧ w.heap.size ≤ g
theorem tbN_new (b0 : Nat) (w : World) (hb : b0 ≤ w.heap.size) : Calls Tryz.prog 17 #[] w (tbNNew b0 w) := by
  have H : Hid (Calls Tryz.prog 28 #[] w (tbNNew b0 w)) := by
    show Calls Tryz.prog 28 #[] w (tbNNew b0 w)
    go_enter Tryz.func28, Tryz.ntmps28
    go_wp2_with fail
    go_ret
    exact ⟨w.heap.size, rfl, ⟨Bk.new _ _ _, Lst.nil _ _ _ _, hb⟩, (Fr.refl _ _).alloc _, Nat.le_refl _⟩
  go_enter Tryz.func17, Tryz.ntmps17
  go_wp2_with fail
  refine (Calls.mono H.out ?_)
  rintro e w' ⟨g, rfl, h1, h2, h3⟩
  go_wp2_with fail
  go_ret
  exact ⟨g, rfl, h1, h2, h3⟩
theorem tbN_len (b0 g : Nat) (v : Value) (l : List PN) (w : World) (h : TbN b0 w g v l) :
    Calls Tryz.prog 64 #[.pointer (some ⟨g, 0, none⟩)] w fun e w' => e = .returned (.int .i64 (l.length : Nat)) ∧ w = w' := by
  obtain ⟨A, cp, rfl, _, _⟩ := h.L.look
  have c1 : w.cell? ⟨g, 0, none⟩ = some (.slice A l.length cp) := h.B.cell 0
  clear h
  go_enter Tryz.func64, Tryz.ntmps64
  go_wp2_with fail
  go_ret
  exact ⟨rfl, rfl⟩

/-- What Set leaves. -/
def tsetN (l : List PN) (k : Int) (v : Int) : List PN :=
  if pbN l k then (match l[plN l k]? with
    | some p => l.set (plN l k) (p.1, v)
    | none => l)
  else l.take (plN l k) ++ [(k, v)] ++ l.drop (plN l k)

set_option maxHeartbeats 1600000 in
theorem tbN_set_old (b0 g : Nat) (v : Value) (l : List PN) (k : Int) (x : Int) (w : World) (h : TbN b0 w g v l) (hl : l.length ≤ 1000000000) (hb : pbN l k = true) :
    Calls Tryz.prog 56 #[.pointer (some ⟨g, 0, none⟩), kN k, vN x] w (TbNTo b0 g v (tsetN l k x) (.bool false) w) := by
  obtain ⟨Q, hQ⟩ : ∃ Q, plN l k = Q := ⟨_, rfl⟩
  have hp1 := hb
  unfold pbN at hp1
  rw [hQ] at hp1
  obtain ⟨p, hp⟩ : ∃ p, l[Q]? = some p := by
    cases hh : l[Q]? with
    | none => rw [hh] at hp1; cases hp1
    | some p => exact ⟨p, rfl⟩
  have hlt : Q < l.length := (List.getElem?_eq_some_iff.1 hp).1
  have hres : tsetN l k x = l.set Q (p.1, x) := by
    unfold tsetN
    rw [if_pos hb, hQ, hp]
  obtain ⟨n, hn⟩ : ∃ n, l.length = n := ⟨_, rfl⟩
  have hL := h.L
  rw [hn] at hL hl hlt
  obtain ⟨bb, o, cp, rfl, hbb, hbl, _, _, _, hfz, hcell⟩ := hL.form (by omega)
  have HPL : Hid (Calls Tryz.prog 90 #[.slice (some ⟨bb, o, none⟩) n cp, kN k] w fun e w' => e = .returned (.tuple #[.int .i64 (Q : Nat), .bool true]) ∧ w = w') := by
    have := placeN b0 _ l k w h.L (by omega)
    rw [hQ, hb] at this
    exact this
  have c0 : w.cell? ⟨g, 0, none⟩ = some (.slice (some ⟨bb, o, none⟩) n cp) := h.B.cell 0
  have cv := hcell (Q * 2 + 1) _ (cells2_at _ _ l Q p hp).2
  have fv := hfz (o + (Q * 2 + 1))
  rw [← Nat.add_assoc] at cv fv
  have hne : bb ≠ g := hL.ne_bk h.B (by decide) bb rfl
  have i0 : (0 : Int) ≤ (Q : Int) := by omega
  have i1 : (Q : Int) < (n : Int) := by omega
  have HB := Lib.hid h.B
  have HGB := Lib.hid h.b
  have HL := Lib.hid hL
  have HRES := Lib.hid hres
  have HN := Lib.hid hn
  have HPP := Lib.hid hp
  clear h hb hL hcell hfz hp hp1 hQ hres hn
  unfold kN vN at *
  go_enter Tryz.func56, Tryz.ntmps56
  go_wp2_with fail
  refine (Calls.mono HPL.out ?_)
  rintro e w1 ⟨rfl, rfl⟩
  go_wp2_with fail
  go_ret
  refine ⟨rfl, .slice (some ⟨bb, o, none⟩) n cp, ⟨HB.out.far (p := ⟨bb, o + Q * 2 + 1, none⟩) hne.symm _, ?_, HGB.out⟩, (Fr.refl _ _).setCell (.inl (by simp [skT, Value.ownBlock])) _, fun y hy => .inl hy⟩
  have h1 := HL.out.put (j := Q * 2 + 1) (vN x)
  rw [HRES.out, List.length_set, HN.out]
  have h2 := cells2_set (fun p : PN => kN p.1) (fun p => vN p.2) l Q (p.1, x) (fun q hq => by rw [HPP.out] at hq; cases hq; rfl)
  unfold cellsN at h1 ⊢
  rw [← Nat.add_assoc, h2] at h1
  exact h1

/-! ### string,int -/
theorem pairT_info : (Tryz.prog.info? 145).map (fun i => (i.zero, i.size, i.bytes)) = some (some (.agg #[.string ⟨#[]⟩, .int .i64 0]), 2, 24) := by kernel_rfl
theorem pairT_size : (Tryz.prog.info? 145).map (·.size) = some 2 := by kernel_rfl

structure TbT (b0 : Nat) (w : World) (g : Nat) (v : Value) (l : List PT) : Prop where
  B : Bk w g 130 #[v]
  L : Lst w b0 145 2 v l.length (cellsT l)
  b : b0 ≤ g
theorem TbT.fr {b0 : Nat} {w w' : World} {g : Nat} {v : Value} {l : List PT} {S : List Nat} (h : TbT b0 w g v l) (hf : Fr S w w') (h1 : g ∉ S) (h2 : ∀ k, v.ownBlock = some k → k ∉ S) : TbT b0 w' g v l :=
  ⟨h.B.fr hf h1, h.L.fr hf h2, h.b⟩
def TbTTo (b0 : Nat) (g : Nat) (v : Value) (l' : List PT) (r : Value) (w : World) (e : Ending) (w' : World) : Prop :=
  e = .returned r ∧ ∃ v', TbT b0 w' g v' l' ∧ Fr (skT g v) w w' ∧ ∀ x ∈ skT g v', x ∈ skT g v ∨ w.heap.size ≤ x

def tbTNew (b0 : Nat) (w : World) (e : Ending) (w' : World) : Prop := ∃ g, e = .returned (.pointer (some ⟨g, 0, none⟩)) ∧ TbT b0 w' g (.slice none 0 0) [] ∧ Fr [] w w' ∧ w.heap.size ≤ g
theorem tbT_new (b0 : Nat) (w : World) (hb : b0 ≤ w.heap.size) : Calls Tryz.prog 18 #[] w (tbTNew b0 w) := by
  have H : Hid (Calls Tryz.prog 29 #[] w (tbTNew b0 w)) := by
    show Calls Tryz.prog 29 #[] w (tbTNew b0 w)
    go_enter Tryz.func29, Tryz.ntmps29
    go_wp2_with fail
    go_ret
    exact ⟨w.heap.size, rfl, ⟨Bk.new _ _ _, Lst.nil _ _ _ _, hb⟩, (Fr.refl _ _).alloc _, Nat.le_refl _⟩
  go_enter Tryz.func18, Tryz.ntmps18
  go_wp2_with fail
  refine (Calls.mono H.out ?_)
  rintro e w' ⟨g, rfl, h1, h2, h3⟩
  go_wp2_with fail
  go_ret
  exact ⟨g, rfl, h1, h2, h3⟩
theorem tbT_len (b0 g : Nat) (v : Value) (l : List PT) (w : World) (h : TbT b0 w g v l) :
    Calls Tryz.prog 74 #[.pointer (some ⟨g, 0, none⟩)] w fun e w' => e = .returned (.int .i64 (l.length : Nat)) ∧ w = w' := by
  obtain ⟨A, cp, rfl, _, _⟩ := h.L.look
  have c1 : w.cell? ⟨g, 0, none⟩ = some (.slice A l.length cp) := h.B.cell 0
  clear h
  go_enter Tryz.func74, Tryz.ntmps74
  go_wp2_with fail
  go_ret
  exact ⟨rfl, rfl⟩

/-- What Set leaves. -/
def tsetT (l : List PT) (k : ByteArray) (v : Int) : List PT :=
  if pbT l k then (match l[plT l k]? with
    | some p => l.set (plT l k) (p.1, v)
    | none => l)
  else l.take (plT l k) ++ [(k, v)] ++ l.drop (plT l k)

set_option maxHeartbeats 1600000 in
theorem tbT_set_old (b0 g : Nat) (v : Value) (l : List PT) (k : ByteArray) (x : Int) (w : World) (h : TbT b0 w g v l) (hl : l.length ≤ 1000000000) (hb : pbT l k = true) :
    Calls Tryz.prog 66 #[.pointer (some ⟨g, 0, none⟩), kT k, vT x] w (TbTTo b0 g v (tsetT l k x) (.bool false) w) := by
  obtain ⟨Q, hQ⟩ : ∃ Q, plT l k = Q := ⟨_, rfl⟩
  have hp1 := hb
  unfold pbT at hp1
  rw [hQ] at hp1
  obtain ⟨p, hp⟩ : ∃ p, l[Q]? = some p := by
    cases hh : l[Q]? with
    | none => rw [hh] at hp1; cases hp1
    | some p => exact ⟨p, rfl⟩
  have hlt : Q < l.length := (List.getElem?_eq_some_iff.1 hp).1
  have hres : tsetT l k x = l.set Q (p.1, x) := by
    unfold tsetT
    rw [if_pos hb, hQ, hp]
  obtain ⟨n, hn⟩ : ∃ n, l.length = n := ⟨_, rfl⟩
  have hL := h.L
  rw [hn] at hL hl hlt
  obtain ⟨bb, o, cp, rfl, hbb, hbl, _, _, _, hfz, hcell⟩ := hL.form (by omega)
  have HPL : Hid (Calls Tryz.prog 95 #[.slice (some ⟨bb, o, none⟩) n cp, kT k] w fun e w' => e = .returned (.tuple #[.int .i64 (Q : Nat), .bool true]) ∧ w = w') := by
    have := placeT b0 _ l k w h.L (by omega)
    rw [hQ, hb] at this
    exact this
  have c0 : w.cell? ⟨g, 0, none⟩ = some (.slice (some ⟨bb, o, none⟩) n cp) := h.B.cell 0
  have cv := hcell (Q * 2 + 1) _ (cells2_at _ _ l Q p hp).2
  have fv := hfz (o + (Q * 2 + 1))
  rw [← Nat.add_assoc] at cv fv
  have hne : bb ≠ g := hL.ne_bk h.B (by decide) bb rfl
  have i0 : (0 : Int) ≤ (Q : Int) := by omega
  have i1 : (Q : Int) < (n : Int) := by omega
  have HB := Lib.hid h.B
  have HGB := Lib.hid h.b
  have HL := Lib.hid hL
  have HRES := Lib.hid hres
  have HN := Lib.hid hn
  have HPP := Lib.hid hp
  clear h hb hL hcell hfz hp hp1 hQ hres hn
  unfold kT vT at *
  go_enter Tryz.func66, Tryz.ntmps66
  go_wp2_with fail
  refine (Calls.mono HPL.out ?_)
  rintro e w1 ⟨rfl, rfl⟩
  go_wp2_with fail
  go_ret
  refine ⟨rfl, .slice (some ⟨bb, o, none⟩) n cp, ⟨HB.out.far (p := ⟨bb, o + Q * 2 + 1, none⟩) hne.symm _, ?_, HGB.out⟩, (Fr.refl _ _).setCell (.inl (by simp [skT, Value.ownBlock])) _, fun y hy => .inl hy⟩
  have h1 := HL.out.put (j := Q * 2 + 1) (vT x)
  rw [HRES.out, List.length_set, HN.out]
  have h2 := cells2_set (fun p : PT => kT p.1) (fun p => vT p.2) l Q (p.1, x) (fun q hq => by rw [HPP.out] at hq; cases hq; rfl)
  unfold cellsT at h1 ⊢
  rw [← Nat.add_assoc, h2] at h1
  exact h1
end Go.Proofs.YtdjaalkbpdmdgaaGreat
