/-
  Bag: the document's table of numbers by text, and the calls of the desk.
-/
import Derived.Test.YtdjaalkbpdmdgaaGreatBgY1
import Derived.Test.YtdjaalkbpdmdgaaGreatBgT8
import Derived.Test.YtdjaalkbpdmdgaaGreatBgW2
import Derived.Test.YtdjaalkbpdmdgaaGreatBgW6
namespace Go.Proofs.YtdjaalkbpdmdgaaGreat
open Go.RowKit
set_option linter.unusedVariables false

def rkT (r : List PT) : List Value := r.map (fun p => kT p.1)
def rvT (r : List PT) : List Value := r.map (fun p => vT p.2)
theorem rkT_len (r : List PT) : (rkT r).length = r.length := by simp [rkT]
theorem rvT_len (r : List PT) : (rvT r).length = r.length := by simp [rvT]
theorem rkT_at {r : List PT} {i : Nat} {p : PT} (h : r[i]? = some p) : (rkT r)[i]? = some (kT p.1) := by unfold rkT; rw [List.getElem?_map, h]; rfl
theorem rvT_at {r : List PT} {i : Nat} {p : PT} (h : r[i]? = some p) : (rvT r)[i]? = some (vT p.2) := by unfold rvT; rw [List.getElem?_map, h]; rfl
abbrev RwT (b0 : Nat) (w : World) (g : Nat) (kv vv : Value) (r : List PT) : Prop := Rw 74 9 3 b0 w g kv vv (rkT r) (rvT r)
def RwTTo (b0 g : Nat) (kv vv : Value) (r : List PT) (res : Value) (w : World) (e : Ending) (w' : World) : Prop :=
  e = .returned res ∧ ∃ kv' vv', RwT b0 w' g kv' vv' r ∧ Fr (rwT g kv vv) w w' ∧ ∀ x ∈ rwT g kv' vv', x ∈ rwT g kv vv ∨ w.heap.size ≤ x
def findT (r : List PT) (k : ByteArray) : Option Nat := r.findIdx? (fun p => decide (p.1 = k))
def findIT (r : List PT) (k : ByteArray) : Int := match findT r k with | some i => (i : Int) | none => -1
theorem findA_noneT {r : List PT} {k : ByteArray} (h : ∀ (q : Nat) (p : PT), r[q]? = some p → p.1 ≠ k) : findT r k = none := by
  unfold findT
  rw [List.findIdx?_eq_none_iff]
  intro p hp
  obtain ⟨q, hq⟩ := List.mem_iff_getElem?.1 hp
  simpa using h q p hq
theorem findA_someT {r : List PT} {k : ByteArray} {i : Nat} {p : PT} (hi : r[i]? = some p) (hp : p.1 = k) (h : ∀ (q : Nat) (p : PT), q < i → r[q]? = some p → p.1 ≠ k) : findT r k = some i := by
  unfold findT
  rw [List.findIdx?_eq_some_iff_getElem]
  obtain ⟨h1, h2⟩ := List.getElem?_eq_some_iff.1 hi
  refine ⟨h1, by rw [h2]; simpa using hp, fun j hj => ?_⟩
  have := h j r[j] hj (List.getElem?_eq_getElem (by (first | omega | grind)))
  simpa using this

set_option maxRecDepth 100000 in
theorem nfind_any (b0 g : Nat) (kv vv : Value) (r : List PT) (k : ByteArray) (w : World) (h : RwT b0 w g kv vv r) (hl : r.length ≤ 1000000) :
    Calls Tryz.prog 96 #[.pointer (some ⟨g, 0, none⟩), .string k] w fun e w' => e = .returned (.int .i64 (findIT r k)) ∧ w = w' := by
  have hK := h.K
  rw [rkT_len] at hK
  obtain ⟨n, hn⟩ : ∃ n, r.length = n := ⟨_, rfl⟩
  have HN := Lib.hid hn
  rw [hn] at hK hl
  obtain ⟨A, cp, hv, _, _⟩ := hK.look
  have c0 : w.cell? ⟨g, 0, none⟩ = some (.slice A n cp) := by rw [← hv]; exact h.B.cell 0
  rw [hv] at hK
  have HK := Lib.hid hK
  clear h hv hn hK
  go_enter Tryz.func96, Tryz.ntmps96
  go_wp2_with fail
  go_loopw [5] (fun j wr => ∃ i : Nat, i ≤ n ∧ j = .int .i64 i ∧ w = wr ∧ Hid (∀ (q : Nat) (p : PT), q < i → r[q]? = some p → p.1 ≠ k)) (fun j _ => n - (intOf j).toNat)
  case atStart => exact ⟨0, by (first | omega | grind), rfl, rfl, fun q p hq => by (first | omega | grind)⟩
  case round =>
    obtain ⟨i, hi, rfl, rfl, HX⟩ := hrel
    by_cases hlt : i < n
    · obtain ⟨p, hp⟩ : ∃ p, r[i]? = some p := ⟨_, List.getElem?_eq_getElem (by have := HN.out; (first | omega | grind))⟩
      obtain ⟨gl, off, cap, hq, _, _, _, _, _, _, hcl⟩ := HK.out.form (by (first | omega | grind))
      injection hq with q1 _ q3
      subst q1 q3
      have cx := hcl i _ (rkT_at hp)
      obtain ⟨pk, pv⟩ := p
      unfold kT at cx
      have i0 : (0 : Int) ≤ (i : Int) := by (first | omega | grind)
      have i1 : (i : Int) < (n : Int) := by (first | omega | grind)
      have i2 : decide ((i : Int) < (n : Int)) = true := decide_eq_true i1
      by_cases he : pk = k
      · have d0 : (pk.toList == k.toList) = true := by rw [eqlB]; exact decide_eq_true he
        have hf : findIT r k = (i : Int) := by unfold findIT; rw [findA_someT hp he (fun q p hq hqp => HX.out q p hq hqp)]
        have HFE := Lib.hid hf
        clear hcl hp hf he
        go_wp2_with fail
        go_ret
        exact ⟨by rw [HFE.out]; rfl, rfl⟩
      · have d0 : (pk.toList == k.toList) = false := by rw [eqlB]; exact decide_eq_false he
        have HY : Hid (∀ (q : Nat) (p : PT), q < i + 1 → r[q]? = some p → p.1 ≠ k) := fun q p hq hqp => by
          by_cases e : q = i
          · subst e
            rw [hp] at hqp
            injection hqp with hqp
            rw [← hqp]
            exact he
          · exact HX.out q p (by (first | omega | grind)) hqp
        clear hcl hp he
        go_wp2_with fail
        go_roundw
        case rel => exact ⟨i + 1, by (first | omega | grind), by go_num, by first | rfl | trivial, HY.out⟩
        case measure => simp [intOf]; (first | omega | grind)
    · obtain rfl : n = i := by (first | omega | grind)
      have hf : findIT r k = -1 := by
        unfold findIT
        rw [findA_noneT (fun q p hqp => HX.out q p (by have := (List.getElem?_eq_some_iff.1 hqp).1; have := HN.out; (first | omega | grind)) hqp)]
      have HFE := Lib.hid hf
      have i2 : decide ((n : Int) < (n : Int)) = false := decide_eq_false (by (first | omega | grind))
      clear hf
      go_wp2_with fail
      go_ret
      exact ⟨by rw [HFE.out]; rfl, rfl⟩

def rgetT (r : List PT) (k : ByteArray) : Option Int := (findT r k).bind (fun i => (r[i]?).map (·.2))
set_option maxRecDepth 100000 in
theorem nget_same (b0 g : Nat) (kv vv : Value) (r : List PT) (k : ByteArray) (w : World) (h : RwT b0 w g kv vv r) (hl : r.length ≤ 1000000) :
    Calls Tryz.prog 69 #[.pointer (some ⟨g, 0, none⟩), .string k] w fun e w' => e = .returned (match rgetT r k with | some v => .tuple #[vT v, .bool true] | none => .tuple #[.int .i64 0, .bool false]) ∧ w = w' := by
  have HF := Lib.hid (nfind_any b0 g kv vv r k w h hl)
  cases hf : findT r k with
  | none =>
    have e1 : rgetT r k = none := by unfold rgetT; rw [hf]; rfl
    have e2 : findIT r k = -1 := by unfold findIT; rw [hf]
    rw [e1]
    rw [e2] at HF
    clear h e1 e2 hf
    go_enter Tryz.func69, Tryz.ntmps69
    go_wp2_with fail
    refine (Calls.mono HF.out ?_)
    rintro e w' ⟨rfl, rfl⟩
    go_wp2_with fail
    go_ret2
    exact ⟨rfl, rfl⟩
  | some i =>
    have hi : i < r.length := by
      unfold findT at hf
      rw [List.findIdx?_eq_some_iff_getElem] at hf
      exact hf.1
    obtain ⟨p, hp⟩ : ∃ p, r[i]? = some p := ⟨_, List.getElem?_eq_getElem hi⟩
    have e1 : rgetT r k = some p.2 := by unfold rgetT; rw [hf]; simp [hp]
    have e2 : findIT r k = (i : Int) := by unfold findIT; rw [hf]
    rw [e1]
    rw [e2] at HF
    have hV := h.V
    rw [rvT_len] at hV
    obtain ⟨n, hn⟩ : ∃ n, r.length = n := ⟨_, rfl⟩
    rw [hn] at hV hi
    obtain ⟨gl, off, cap, hv, _, _, _, _, _, _, hcl⟩ := hV.form (by (first | omega | grind))
    have c1 : w.cell? ⟨g, 1, none⟩ = some (.slice (some ⟨gl, off, none⟩) n cap) := by rw [← hv]; exact h.B.cell 1
    have cx := hcl i _ (rvT_at hp)
    obtain ⟨pk, pv⟩ := p
    unfold vT at cx ⊢
    have i0 : (0 : Int) ≤ (i : Int) := by (first | omega | grind)
    have i1 : (i : Int) < (n : Int) := by (first | omega | grind)
    have i2 : decide ((i : Int) < 0) = false := decide_eq_false (by (first | omega | grind))
    clear h e1 e2 hf hV hv hcl hn hp
    go_enter Tryz.func69, Tryz.ntmps69
    go_wp2_with fail
    refine (Calls.mono HF.out ?_)
    rintro e w' ⟨rfl, rfl⟩
    go_wp2_with fail
    go_ret2
    exact ⟨rfl, rfl⟩
theorem nget_any (b0 g : Nat) (kv vv : Value) (r : List PT) (k : ByteArray) (w : World) (h : RwT b0 w g kv vv r) (hl : r.length ≤ 1000000) :
    Calls Tryz.prog 69 #[.pointer (some ⟨g, 0, none⟩), .string k] w fun e w' => e = .returned (match rgetT r k with | some v => .tuple #[vT v, .bool true] | none => .tuple #[.int .i64 0, .bool false]) ∧ Fr [] w w' :=
  (nget_same b0 g kv vv r k w h hl).mono fun e w' ⟨h1, h2⟩ => ⟨h1, by subst h2; exact Fr.refl _ _⟩
end Go.Proofs.YtdjaalkbpdmdgaaGreat
namespace Go.Proofs.YtdjaalkbpdmdgaaGreat
open Go.RowKit
set_option linter.unusedVariables false

def rsetT (r : List PT) (k : ByteArray) (x : Int) : List PT := match findT r k with | some i => r.set i (k, x) | none => r ++ [(k, x)]
theorem findA_atT {r : List PT} {k : ByteArray} {i : Nat} (h : findT r k = some i) : ∃ v, r[i]? = some (k, v) ∧ i < r.length := by
  unfold findT at h
  rw [List.findIdx?_eq_some_iff_getElem] at h
  obtain ⟨h1, h2, _⟩ := h
  have : r[i].1 = k := by simpa using h2
  exact ⟨r[i].2, by rw [List.getElem?_eq_getElem h1, ← this], h1⟩

set_option maxRecDepth 100000 in
set_option maxHeartbeats 800000 in
theorem nset_any (b0 g : Nat) (kv vv : Value) (r : List PT) (k : ByteArray) (x : Int) (w : World) (h : RwT b0 w g kv vv r) (hl : r.length ≤ 1000000) (hb : b0 ≤ w.heap.size) :
    Calls Tryz.prog 67 #[.pointer (some ⟨g, 0, none⟩), .string k, .int .i64 x] w fun e w' => e = .returned (.bool (findT r k).isNone) ∧ ∃ kv' vv', RwS 74 9 3 b0 g kv vv w kv' vv' (rkT (rsetT r k x)) (rvT (rsetT r k x)) w' := by
  have HF := Lib.hid (nfind_any b0 g kv vv r k w h hl)
  cases hf : findT r k with
  | some i =>
    obtain ⟨v0, hp, hi⟩ := findA_atT hf
    have e2 : findIT r k = (i : Int) := by unfold findIT; rw [hf]
    rw [e2] at HF
    have eK : rkT (rsetT r k x) = rkT r := by
      unfold rsetT rkT
      rw [hf]
      simp only
      rw [List.map_set]
      exact set_self' (by rw [List.getElem?_map, hp]; rfl)
    have eV : rvT (rsetT r k x) = (rvT r).set i (.int .i64 x) := by
      unfold rsetT rvT
      rw [hf]
      simp only
      rw [List.map_set]
      rfl
    have hV := h.V
    obtain ⟨gl, off, cap, hv, _, _, _, _, _, hfz, hcl⟩ := hV.form (by rw [rvT_len]; (first | omega | grind))
    have HEND : Hid (∃ kv' vv', RwS 74 9 3 b0 g kv vv w kv' vv' (rkT (rsetT r k x)) (rvT (rsetT r k x)) (w.setCell ⟨gl, off + i, none⟩ (.int .i64 x))) := by
      rw [eK, eV]
      exact ⟨kv, vv, h.cellV (by decide) (by decide) hv⟩
    obtain ⟨n, hn⟩ : ∃ n, r.length = n := ⟨_, rfl⟩
    have hlen : (rvT r).length = n := by rw [rvT_len, hn]
    rw [hlen] at hv
    have c1 : w.cell? ⟨g, 1, none⟩ = some (.slice (some ⟨gl, off, none⟩) n cap) := by rw [← hv]; exact h.B.cell 1
    have cx := hcl i _ (rvT_at hp)
    have fx := hfz (off + i)
    unfold vT at cx
    have i0 : (0 : Int) ≤ (i : Int) := by (first | omega | grind)
    have i1 : (i : Int) < (n : Int) := by (first | omega | grind)
    have i2 : decide (0 ≤ (i : Int)) = true := decide_eq_true i0
    clear h e2 hf hV hv hcl hn hp hlen hfz eK eV hl hi
    go_enter Tryz.func67, Tryz.ntmps67
    go_wp2_with fail
    refine (Calls.mono HF.out ?_)
    rintro e w' ⟨rfl, rfl⟩
    go_wp2_with fail
    go_ret
    exact ⟨rfl, HEND.out⟩
  | none =>
    have e2 : findIT r k = -1 := by unfold findIT; rw [hf]
    rw [e2] at HF
    have eK : rkT (rsetT r k x) = rkT r ++ [.string k] := by
      unfold rsetT rkT
      rw [hf]
      simp only
      rw [List.map_append]
      rfl
    have eV : rvT (rsetT r k x) = rvT r ++ [.int .i64 x] := by
      unfold rsetT rvT
      rw [hf]
      simp only
      rw [List.map_append]
      rfl
    obtain ⟨n, hn⟩ : ∃ n, r.length = n := ⟨_, rfl⟩
    have lk : (rkT r).length = n := by rw [rkT_len, hn]
    have lv : (rvT r).length = n := by rw [rvT_len, hn]
    rw [hn] at hl
    have hK := h.K
    have hV := h.V
    rw [lk] at hK
    rw [lv] at hV
    obtain ⟨A1, p1, hk1, _, _⟩ := hK.look
    obtain ⟨A2, p2, hv1, _, _⟩ := hV.look
    have HK := Lib.hid hK
    have H0 := Lib.hid h
    have HV1 := Lib.hid hv1
    have HK1 := Lib.hid hk1
    have c0 : w.cell? ⟨g, 0, none⟩ = some (.slice A1 n p1) := by rw [← hk1]; exact h.B.cell 0
    have HS1 : Hid (∀ w1 v', Fr kv.ownBlock.toList w w1 → Lst w1 b0 9 1 v' (n + 1) (rkT r ++ [.string k]) → (∀ k, v'.ownBlock = some k → kv.ownBlock = some k ∨ w.heap.size ≤ k) → Bk w1 g 74 #[kv, vv] ∧ RwS 74 9 3 b0 g kv vv w v' vv (rkT r ++ [.string k]) (rvT r) (w1.setCell ⟨g, 0, none⟩ v')) := fun w1 v' f1 f2 f3 =>
      H0.out.putK (by decide) (by decide) (by decide) f1 (by rw [List.length_append, lk]; exact f2) f3
    have HEQ : Hid (rkT (rsetT r k x) = rkT r ++ [.string k] ∧ rvT (rsetT r k x) = rvT r ++ [.int .i64 x] ∧ (rvT r).length = n) := ⟨eK, eV, lv⟩
    obtain ⟨i2, hi2, hz2, hs2, hb2⟩ := info_parts' str_info
    obtain ⟨i3, hi3, hz3, hs3, hb3⟩ := info_parts' int_info
    subst hk1
    clear h e2 hf hn lk lv hK hV eK eV
    go_enter Tryz.func67, Tryz.ntmps67
    go_wp2_with fail
    refine (Calls.mono HF.out ?_)
    rintro e w' ⟨rfl, rfl⟩
    go_wp2_with (at_builtin; refine wpList_append_lst _ rfl (.tmp 24) (.tmp 26) _ rfl b0 9 i2 _ 1 16 Tryz.underlying72 hi2 hz2 hs2 hb2 rfl _ n (rkT r) rfl (HK.out.alloc _) ⟨w.heap.size, 0, none⟩ 1 1 [.string k] rfl rfl (World.news_of_block (heap_alloc_new _ _)) ?cA ?cB ?cC ?cD ?cE)
    case cA => simp [Value.oneCell']
    case cB => unfold maxLen; (first | omega | grind)
    case cC => (first | omega | grind)
    case cD => first | (first | omega | grind) | (simp; (first | omega | grind))
    case cE =>
      intro v2 w3 hown hgrow hat
      obtain ⟨q1, q2⟩ := HS1.out w3 v2 (((Fr.refl _ _).alloc _).grown hgrow (fun j hj => .inl (by simp [hj]))) hown (own_or (by simp) hat)
      have d7 := q1.cell 0
      have f7 := q1.free 0
      obtain ⟨A5, p5, rfl, _, _⟩ := hown.look
      obtain ⟨w4, hw4⟩ : ∃ w4, w3.setCell ⟨g, 0, none⟩ (.slice A5 (n + 1) p5) = w4 := ⟨_, rfl⟩
      rw [hw4] at q2
      have Q2 := Lib.hid q2
      have hV4 := q2.1.V
      rw [HEQ.out.2.2, HV1.out] at hV4
      have c4 : w4.cell? ⟨g, 1, none⟩ = some (.slice A2 n p2) := by rw [← HV1.out]; exact q2.1.B.cell 1
      have HV4 := Lib.hid hV4
      have hs4 : b0 ≤ w4.heap.size := Nat.le_trans hb q2.2.1.size
      have HS2 : Hid (∀ w5 v', Fr vv.ownBlock.toList w4 w5 → Lst w5 b0 3 1 v' (n + 1) (rvT r ++ [.int .i64 x]) → (∀ k, v'.ownBlock = some k → vv.ownBlock = some k ∨ w4.heap.size ≤ k) → Bk w5 g 74 #[.slice A5 (n + 1) p5, vv] ∧ ∃ kv' vv', RwS 74 9 3 b0 g (.slice A1 n p1) vv w kv' vv' (rkT (rsetT r k x)) (rvT (rsetT r k x)) (w5.setCell ⟨g, 1, none⟩ v')) := fun w5 v' f1 f2 f3 => by
        obtain ⟨z1, z2⟩ := Q2.out.1.putV (vs' := rvT r ++ [.int .i64 x]) (by decide) (by decide) (by decide) f1 (by rw [List.length_append, HEQ.out.2.2]; exact f2) f3
        rw [HEQ.out.1, HEQ.out.2.1]
        exact ⟨z1, _, _, Q2.out.trans z2⟩
      rw [HV1.out] at HS2
      clear hown hgrow hat q1 q2 hV4
      go_upto_region 6 with fail
      try rw [hw4]
      clear hw4 d7 f7 c0
      go_wp2_with (at_builtin; refine wpList_append_lst _ rfl (.tmp 34) (.tmp 36) _ rfl b0 3 i3 _ 1 8 Tryz.underlying68 hi3 hz3 hs3 hb3 rfl _ n (rvT r) rfl (HV4.out.alloc _) ⟨w4.heap.size, 0, none⟩ 1 1 [.int .i64 x] rfl rfl (World.news_of_block (heap_alloc_new _ _)) ?dA ?dB ?dC ?dD ?dE)
      case dA => simp [Value.oneCell']
      case dB => unfold maxLen; (first | omega | grind)
      case dC => (first | omega | grind)
      case dD => first | (first | omega | grind) | (simp; (first | omega | grind))
      case dE =>
        intro v6 w5 hown hgrow hat
        obtain ⟨q1, q2⟩ := HS2.out w5 v6 (((Fr.refl _ _).alloc _).grown hgrow (fun j hj => .inl (by simp [hj]))) hown (own_or (by simp) hat)
        have Q5 := Lib.hid q2
        have d5 := q1.cell 1
        have f5 := q1.free 1
        obtain ⟨A6, p6, rfl, _, _⟩ := hown.look
        clear hown hgrow hat q1 q2
        go_wp2_with fail
        go_ret
        rw [HV1.out]
        exact ⟨rfl, Q5.out⟩
end Go.Proofs.YtdjaalkbpdmdgaaGreat
namespace Go.Proofs.YtdjaalkbpdmdgaaGreat
open Go.RowKit
set_option linter.unusedVariables false

def rdropT (r : List PT) (k : ByteArray) : List PT := match findT r k with | some i => (r.set i (r.getD (r.length - 1) (⟨#[]⟩, 0))).take (r.length - 1) | none => r

set_option maxRecDepth 100000 in
set_option maxHeartbeats 800000 in
theorem ndrop_any (b0 g : Nat) (kv vv : Value) (r : List PT) (k : ByteArray) (w : World) (h : RwT b0 w g kv vv r) (hl : r.length ≤ 1000000) (hb : b0 ≤ w.heap.size) :
    Calls Tryz.prog 71 #[.pointer (some ⟨g, 0, none⟩), .string k] w fun e w' => e = .returned (.bool (findT r k).isSome) ∧ ∃ kv' vv', RwS 74 9 3 b0 g kv vv w kv' vv' (rkT (rdropT r k)) (rvT (rdropT r k)) w' := by
  have HF := Lib.hid (nfind_any b0 g kv vv r k w h hl)
  cases hf : findT r k with
  | none =>
    have e2 : findIT r k = -1 := by unfold findIT; rw [hf]
    have e3 : rdropT r k = r := by unfold rdropT; rw [hf]
    rw [e2] at HF
    have HEND : Hid (∃ kv' vv', RwS 74 9 3 b0 g kv vv w kv' vv' (rkT (rdropT r k)) (rvT (rdropT r k)) w) := by
      rw [e3]
      exact ⟨kv, vv, RwS.refl h⟩
    clear h e2 e3 hf
    go_enter Tryz.func71, Tryz.ntmps71
    go_wp2_with fail
    refine (Calls.mono HF.out ?_)
    rintro e w' ⟨rfl, rfl⟩
    go_wp2_with fail
    go_ret
    exact ⟨rfl, HEND.out⟩
  | some i =>
    obtain ⟨v0, hp, hi⟩ := findA_atT hf
    have e2 : findIT r k = (i : Int) := by unfold findIT; rw [hf]
    rw [e2] at HF
    obtain ⟨m, hm⟩ : ∃ m, r.length = m + 1 := ⟨r.length - 1, by (first | omega | grind)⟩
    obtain ⟨lp, hlp⟩ : ∃ lp, r[m]? = some lp := ⟨_, List.getElem?_eq_getElem (by (first | omega | grind))⟩
    obtain ⟨lk, lv⟩ := lp
    have e3 : rdropT r k = (r.set i (lk, lv)).take m := by
      unfold rdropT
      rw [hf]
      simp only
      rw [hm, Nat.add_sub_cancel, List.getD_eq_getElem?_getD, hlp]
      rfl
    have eK : rkT (rdropT r k) = ((rkT r).set i (.string lk)).take m := by
      rw [e3]
      unfold rkT
      rw [List.map_take, List.map_set]
      rfl
    have eV : rvT (rdropT r k) = ((rvT r).set i (.int .i64 lv)).take m := by
      rw [e3]
      unfold rvT
      rw [List.map_take, List.map_set]
      rfl
    have nk : (rkT r).length = m + 1 := by rw [rkT_len, hm]
    have nv : (rvT r).length = m + 1 := by rw [rvT_len, hm]
    obtain ⟨gk, ok, pk, hkv, _, _, hck, hckm, _, hfzk, hclk⟩ := h.K.form (by (first | omega | grind))
    obtain ⟨gv, ov, pv, hvv, _, _, hcv, hcvm, _, hfzv, hclv⟩ := h.V.form (by (first | omega | grind))
    -- the four steps
    have S1 := h.cellK (i := i) (u := .string lk) (by decide) (by decide) hkv
    have S2 := S1.trans (S1.1.cellV (i := i) (u := .int .i64 lv) (by decide) (by decide) hvv)
    obtain ⟨w2, hw2⟩ : ∃ w2, (w.setCell ⟨gk, ok + i, none⟩ (.string lk)).setCell ⟨gv, ov + i, none⟩ (.int .i64 lv) = w2 := ⟨_, rfl⟩
    rw [hw2] at S2
    rw [nk] at hkv hck
    rw [nv] at hvv hcv
    have K2 := S2.1.K
    have V2 := S2.1.V
    rw [List.length_set, nk, hkv] at K2
    rw [List.length_set, nv, hvv] at V2
    have K3 := K2.shut (k := m) (by (first | omega | grind))
    have V3 := V2.shut (k := m) (by (first | omega | grind))
    rw [Nat.mul_one] at K3 V3
    have lk3 : (((rkT r).set i (.string lk)).take m).length = m := by rw [List.length_take, List.length_set, nk]; (first | omega | grind)
    have lv3 : (((rvT r).set i (.int .i64 lv)).take m).length = m := by rw [List.length_take, List.length_set, nv]; (first | omega | grind)
    have P3 := S2.1.putK (w1 := w2) (v' := .slice (some ⟨gk, ok, none⟩) m pk) (ks' := ((rkT r).set i (.string lk)).take m) (by decide) (by decide) (by decide) (Fr.refl _ _) (by rw [lk3]; exact K3) (fun x hx => .inl (by rw [hkv]; exact hx))
    have S3 := S2.trans P3.2
    have V4 := S3.1.V
    rw [List.length_set, nv, hvv] at V4
    have V5 := V4.shut (k := m) (by (first | omega | grind))
    rw [Nat.mul_one] at V5
    have P4 := S3.1.putV (w1 := w2.setCell ⟨g, 0, none⟩ (.slice (some ⟨gk, ok, none⟩) m pk)) (v' := .slice (some ⟨gv, ov, none⟩) m pv) (vs' := ((rvT r).set i (.int .i64 lv)).take m) (by decide) (by decide) (by decide) (Fr.refl _ _) (by rw [lv3]; exact V5) (fun x hx => .inl (by rw [hvv]; exact hx))
    have S4 := S3.trans P4.2
    have HEND : Hid (∃ kv' vv', RwS 74 9 3 b0 g kv vv w kv' vv' (rkT (rdropT r k)) (rvT (rdropT r k)) ((w2.setCell ⟨g, 0, none⟩ (.slice (some ⟨gk, ok, none⟩) m pk)).setCell ⟨g, 1, none⟩ (.slice (some ⟨gv, ov, none⟩) m pv))) := by
      rw [eK, eV]
      exact ⟨_, _, S4⟩
    have c0 : w.cell? ⟨g, 0, none⟩ = some (.slice (some ⟨gk, ok, none⟩) (m + 1) pk) := by rw [← hkv]; exact h.B.cell 0
    have c1 : w.cell? ⟨g, 1, none⟩ = some (.slice (some ⟨gv, ov, none⟩) (m + 1) pv) := by rw [← hvv]; exact h.B.cell 1
    have cki := hclk i _ (rkT_at hp)
    have ckm := hclk m _ (rkT_at hlp)
    have cvi := hclv i _ (rvT_at hp)
    have cvm := hclv m _ (rvT_at hlp)
    have fki := hfzk (ok + i)
    have fvi := hfzv (ov + i)
    unfold kT at cki ckm
    unfold vT at cvi cvm
    -- behind the first store
    obtain ⟨w1, hw1⟩ : ∃ w1, w.setCell ⟨gk, ok + i, none⟩ (.string lk) = w1 := ⟨_, rfl⟩
    rw [hw1] at S1 hw2
    have d1 : w1.cell? ⟨g, 1, none⟩ = some (.slice (some ⟨gv, ov, none⟩) (m + 1) pv) := by rw [← hvv]; exact S1.1.B.cell 1
    obtain ⟨gv', ov', pv', hvv', _, _, _, _, _, hfz1, hcl1⟩ := S1.1.V.form (by (first | omega | grind))
    rw [nv, hvv] at hvv'
    injection hvv' with r1 _ r3
    injection r1 with r1
    injection r1 with r1 r4
    subst r1 r3 r4
    have dvi := hcl1 i _ (rvT_at hp)
    have dvm := hcl1 m _ (rvT_at hlp)
    have gvi := hfz1 (ov + i)
    unfold vT at dvi dvm
    have k0 : w2.cell? ⟨g, 0, none⟩ = some (.slice (some ⟨gk, ok, none⟩) (m + 1) pk) := by rw [← hkv]; exact S2.1.B.cell 0
    have k1 : w2.cell? ⟨g, 1, none⟩ = some (.slice (some ⟨gv, ov, none⟩) (m + 1) pv) := by rw [← hvv]; exact S2.1.B.cell 1
    have kf0 := S2.1.B.free 0
    have kf1 := S2.1.B.free 1
    have i0 : (0 : Int) ≤ (i : Int) := by (first | omega | grind)
    have i1 : (i : Int) < ((m + 1 : Nat) : Int) := by (first | omega | grind)
    have i1' : (i : Int) < (m : Int) + 1 := by (first | omega | grind)
    have i2 : decide ((i : Int) < 0) = false := decide_eq_false (by (first | omega | grind))
    have m0 : (0 : Int) ≤ (m : Int) := by (first | omega | grind)
    have m1 : (m : Int) < ((m + 1 : Nat) : Int) := by (first | omega | grind)
    have m1' : (m : Int) < (m : Int) + 1 := by (first | omega | grind)
    have m2 : IntKind.i64.wrap (((m + 1 : Nat) : Int) - 1) = (m : Int) := by rw [show ((m + 1 : Nat) : Int) - 1 = (m : Int) by (first | omega | grind)]; exact IntWalk.i64_in _ (by (first | omega | grind))
    have m3 : IntKind.i64.wrap (m : Int) = (m : Int) := IntWalk.i64_in _ (by (first | omega | grind))
    have m4 : (m : Int) ≤ (pk : Int) := by (first | omega | grind)
    have m5 : (m : Int) ≤ (pv : Int) := by (first | omega | grind)
    have hpk : pk ≤ 9223372036854775807 := by unfold maxLen at hckm; (first | omega | grind)
    have hpv : pv ≤ 9223372036854775807 := by unfold maxLen at hcvm; (first | omega | grind)
    clear h e2 e3 hf eK eV nk nv hkv hvv hfzk hclk hfzv hclv S1 S2 S3 S4 P3 P4 K2 V2 K3 V3 V4 V5 lk3 lv3 hfz1 hcl1 hp hlp hm hl cvi cvm fvi
    go_enter Tryz.func71, Tryz.ntmps71
    go_wp2_with fail
    refine (Calls.mono HF.out ?_)
    rintro e w' ⟨rfl, rfl⟩
    go_upto_region 5 with fail
    go_region
    all_goals
      go_upto_region 6 with fail
      try rw [hw1]
    all_goals
      clear c0 c1 cki ckm fki
      go_region
    all_goals
      go_upto_region 7 with fail
      try rw [hw2]
    all_goals
      clear d1 dvi dvm gvi
      go_wp2_with fail
      go_ret
      first
        | exact ⟨rfl, HEND.out⟩
        | (obtain ⟨kv', vv', h1, h2, h3⟩ := HEND.out; exact ⟨rfl, kv', vv', h1.fr (((Fr.refl [] _).drew).drew) (fun x _ => by simp), h2.drew.drew, h3⟩)
end Go.Proofs.YtdjaalkbpdmdgaaGreat
namespace Go.Proofs.YtdjaalkbpdmdgaaGreat
open Go.RowKit
set_option linter.unusedVariables false

def bestKT (k : ByteArray) (s : Option PT) (p : PT) : Option PT := match s with
  | none => if p.1 ≤ k then some p else none
  | some q => if p.1 ≤ k ∧ q.1 < p.1 then some p else some q
def nearRT (r : List PT) (k : ByteArray) : Option PT := r.foldl (bestKT k) none
theorem nearR_succT {r : List PT} {k : ByteArray} {i : Nat} {p : PT} (h : r[i]? = some p) : nearRT (r.take (i + 1)) k = bestKT k (nearRT (r.take i) k) p := by
  obtain ⟨h1, h2⟩ := List.getElem?_eq_some_iff.1 h
  unfold nearRT
  rw [List.take_succ_eq_append_getElem h1, h2, List.foldl_append]
  rfl
/-- Where the best stands among the first i. -/
def AtT (r : List PT) (k : ByteArray) (i : Nat) (at_ : Int) : Prop := (at_ = -1 ∧ nearRT (r.take i) k = none) ∨ ∃ (a : Nat) (q : PT), at_ = (a : Int) ∧ r[a]? = some q ∧ nearRT (r.take i) k = some q

set_option maxRecDepth 100000 in
set_option maxHeartbeats 1600000 in
theorem nnear_any (b0 g : Nat) (kv vv : Value) (r : List PT) (k : ByteArray) (w : World) (h : RwT b0 w g kv vv r) (hl : r.length ≤ 1000000) :
    Calls Tryz.prog 73 #[.pointer (some ⟨g, 0, none⟩), .string k] w (NearT (nearRT r k) w) := by
  have H0 := Lib.hid h
  obtain ⟨n, hn⟩ : ∃ n, r.length = n := ⟨_, rfl⟩
  have HN := Lib.hid hn
  rw [hn] at hl
  obtain ⟨A, cp, hv, _, _⟩ := h.K.look
  obtain ⟨A2, cp2, hv2, _, _⟩ := h.V.look
  rw [rkT_len, hn] at hv
  rw [rvT_len, hn] at hv2
  have HCL : Hid (∀ Z, Fr [] w Z → Z.cell? ⟨g, 0, none⟩ = some (.slice A n cp) ∧ Z.cell? ⟨g, 1, none⟩ = some (.slice A2 n cp2) ∧ Lst Z b0 9 1 (.slice A n cp) n (rkT r) ∧ Lst Z b0 3 1 (.slice A2 n cp2) n (rvT r)) := fun Z hf => by
    have hz := H0.out.fr hf (fun x _ => by simp)
    have hk := hz.K
    have hV := hz.V
    rw [rkT_len, HN.out, hv] at hk
    rw [rvT_len, HN.out, hv2] at hV
    exact ⟨by rw [← hv]; exact hz.B.cell 0, by rw [← hv2]; exact hz.B.cell 1, hk, hV⟩
  obtain ⟨c0, c1, _, _⟩ := HCL.out w (Fr.refl _ _)
  clear h hn hv hv2
  go_enter Tryz.func73, Tryz.ntmps73
  go_wp2_with fail
  go_loopw [7, 8] (fun a j wr => ∃ (i : Nat) (at_ : Int), i ≤ n ∧ j = .int .i64 i ∧ a = .int .i64 at_ ∧ Hid (Fr [] w wr ∧ AtT r k i at_)) (fun _ j _ => n - (intOf j).toNat)
  case atStart => exact ⟨0, -1, by (first | omega | grind), rfl, rfl, Fr.refl _ _, .inl ⟨rfl, rfl⟩⟩
  case round =>
    obtain ⟨i, at_, hi, rfl, rfl, hx⟩ := hrel
    have HW := Lib.hid hx.out.1
    have HAT := Lib.hid hx.out.2
    clear hx c0 c1
    obtain ⟨c0, c1, hK, hV⟩ := HCL.out wr HW.out
    by_cases hlt : i < n
    · obtain ⟨p, hp⟩ : ∃ p, r[i]? = some p := ⟨_, List.getElem?_eq_getElem (by have := HN.out; (first | omega | grind))⟩
      have hsu := nearR_succT (k := k) hp
      obtain ⟨gl, off, cap, hq, _, _, _, _, _, _, hcl⟩ := hK.form (by (first | omega | grind))
      injection hq with q1 _ q3
      subst q1 q3
      have cx := hcl i _ (rkT_at hp)
      have i0 : (0 : Int) ≤ (i : Int) := by (first | omega | grind)
      have i1 : (i : Int) < (n : Int) := by (first | omega | grind)
      have i2 : decide ((i : Int) < (n : Int)) = true := decide_eq_true i1
      have HCN := Lib.hid hcl
      have HPI := Lib.hid hp
      obtain ⟨pk, pv⟩ := p
      unfold kT at cx
      by_cases h1 : pk ≤ k
      · have d1 : (Op.bytesLess pk.toList k.toList || pk.toList == k.toList) = true := by rw [leqB]; exact decide_eq_true h1
        rcases HAT.out with ⟨rfl, ha⟩ | ⟨a, q, rfl, hqa, ha⟩
        · have hnx : nearRT (r.take (i + 1)) k = some (pk, pv) := by rw [hsu, ha]; unfold bestKT; rw [if_pos h1]
          have HX : Hid (AtT r k (i + 1) (i : Int)) := .inr ⟨i, _, rfl, HPI.out, hnx⟩
          clear hp hcl hsu hnx ha hV hK
          go_upto_region 5 with fail
          go_quiet (fail)
          go_wp2_with fail
          go_roundw
          case rel => exact ⟨i + 1, i, by (first | omega | grind), by go_num, rfl, HW.out.drewN _, HX.out⟩
          case measure => simp [intOf]; (first | omega | grind)
        · have cq := hcl a _ (rkT_at hqa)
          have hal : a < n := by have := (List.getElem?_eq_some_iff.1 hqa).1; have := HN.out; (first | omega | grind)
          have a0 : (0 : Int) ≤ (a : Int) := by (first | omega | grind)
          have a1 : (a : Int) < (n : Int) := by (first | omega | grind)
          have a2 : decide ((a : Int) < 0) = false := decide_eq_false (by (first | omega | grind))
          have HQA := Lib.hid hqa
          obtain ⟨qk, qv⟩ := q
          unfold kT at cq
          by_cases h2 : qk < pk
          · have d2 : (Op.bytesLess pk.toList qk.toList || pk.toList == qk.toList) = false := by rw [leqB]; exact decide_eq_false (by grind)
            have hnx : nearRT (r.take (i + 1)) k = some (pk, pv) := by rw [hsu, ha]; unfold bestKT; simp only; rw [if_pos ⟨h1, h2⟩]
            have HX : Hid (AtT r k (i + 1) (i : Int)) := .inr ⟨i, _, rfl, HPI.out, hnx⟩
            clear hp hcl hsu hnx ha hqa hV hK
            go_upto_region 5 with fail
            go_quiet (fail)
            go_wp2_with fail
            go_roundw
            case rel => exact ⟨i + 1, i, by (first | omega | grind), by go_num, rfl, HW.out.drewN _, HX.out⟩
            case measure => simp [intOf]; (first | omega | grind)
          · have d2 : (Op.bytesLess pk.toList qk.toList || pk.toList == qk.toList) = true := by rw [leqB]; exact decide_eq_true (by grind)
            have hnx : nearRT (r.take (i + 1)) k = some (qk, qv) := by rw [hsu, ha]; unfold bestKT; simp only; rw [if_neg (by (first | omega | grind))]
            have HX : Hid (AtT r k (i + 1) (a : Int)) := .inr ⟨a, _, rfl, HQA.out, hnx⟩
            clear hp hcl hsu hnx ha hqa hV hK
            go_upto_region 5 with fail
            go_quiet (fail)
            go_wp2_with fail
            go_roundw
            case rel => exact ⟨i + 1, a, by (first | omega | grind), by go_num, rfl, HW.out.drewN _, HX.out⟩
            case measure => simp [intOf]; (first | omega | grind)
      · have d1 : (Op.bytesLess pk.toList k.toList || pk.toList == k.toList) = false := by rw [leqB]; exact decide_eq_false h1
        have hnx : nearRT (r.take (i + 1)) k = nearRT (r.take i) k := by
          rw [hsu]
          unfold bestKT
          cases nearRT (r.take i) k with
          | none => simp only; rw [if_neg h1]
          | some q => simp only; rw [if_neg (by (first | omega | grind))]
        have HX : Hid (AtT r k (i + 1) at_) := by
          unfold AtT
          rw [hnx]
          exact HAT.out
        clear hp hcl hsu hnx hV hK
        go_upto_region 5 with fail
        go_quiet (fail)
        go_wp2_with fail
        go_roundw
        case rel => exact ⟨i + 1, at_, by (first | omega | grind), by go_num, rfl, HW.out.drewN _, HX.out⟩
        case measure => simp [intOf]; (first | omega | grind)
    · obtain rfl : n = i := by (first | omega | grind)
      have i2 : decide ((n : Int) < (n : Int)) = false := decide_eq_false (by (first | omega | grind))
      have hall : r.take n = r := List.take_of_length_le (by have := HN.out; (first | omega | grind))
      rcases HAT.out with ⟨rfl, ha⟩ | ⟨a, q, rfl, hqa, ha⟩
      · rw [hall] at ha
        have HE : Hid (NearT (nearRT r k) w (.returned (.tuple #[.string ⟨#[]⟩, .int .i64 0, .bool false])) wr) := by
          rw [ha]
          exact ⟨rfl, HW.out⟩
        clear ha hall hV hK
        go_wp2_with fail
        go_ret3
        exact HE.out
      · rw [hall] at ha
        have hal : a < n := by have := (List.getElem?_eq_some_iff.1 hqa).1; have := HN.out; (first | omega | grind)
        obtain ⟨gl, off, cap, hq, _, _, _, _, _, _, hcl⟩ := hK.form (by (first | omega | grind))
        injection hq with q1 _ q3
        subst q1 q3
        obtain ⟨gl2, off2, cap2, hq2, _, _, _, _, _, _, hcl2⟩ := hV.form (by (first | omega | grind))
        injection hq2 with s1 _ s3
        subst s1 s3
        have cq := hcl a _ (rkT_at hqa)
        have cv := hcl2 a _ (rvT_at hqa)
        obtain ⟨qk, qv⟩ := q
        unfold kT at cq
        unfold vT at cv
        have HE : Hid (∀ Z, Fr [] w Z → NearT (nearRT r k) w (.returned (.tuple #[.string qk, .int .i64 qv, .bool true])) Z) := fun Z hf => by
          rw [ha]
          exact ⟨rfl, hf⟩
        have a0 : (0 : Int) ≤ (a : Int) := by (first | omega | grind)
        have a1 : (a : Int) < (n : Int) := by (first | omega | grind)
        have a2 : decide ((a : Int) < 0) = false := decide_eq_false (by (first | omega | grind))
        clear ha hall hV hK hcl hcl2 hqa
        go_upto_region 9 with fail
        go_quiet (fail)
        go_wp2_with fail
        go_ret3
        exact HE.out _ (HW.out.drewN _)
end Go.Proofs.YtdjaalkbpdmdgaaGreat
namespace Go.Proofs.YtdjaalkbpdmdgaaGreat
set_option linter.unusedVariables false

/-- The same pairs, once in order, once as they came. -/
structure RlT (l r : List PT) : Prop where
  rise : RiseT l
  nod : r.Pairwise (fun a b => a.1 ≠ b.1)
  mem : ∀ p, p ∈ l ↔ p ∈ r
  len : l.length = r.length
theorem RlT.nil : RlT [] [] := ⟨List.Pairwise.nil, List.Pairwise.nil, fun p => by simp, rfl⟩
theorem nod_atT {r : List PT} (h : r.Pairwise (fun a b => a.1 ≠ b.1)) {i j : Nat} {p q : PT} (hi : r[i]? = some p) (hj : r[j]? = some q) (he : p.1 = q.1) : i = j := by
  rw [List.pairwise_iff_getElem] at h
  obtain ⟨i1, i2⟩ := List.getElem?_eq_some_iff.1 hi
  obtain ⟨j1, j2⟩ := List.getElem?_eq_some_iff.1 hj
  by_cases e : i = j
  · exact e
  · exfalso
    by_cases hlt : i < j
    · exact h i j i1 j1 hlt (by rw [i2, j2]; exact he)
    · exact h j i j1 i1 (by (first | omega | grind)) (by rw [i2, j2]; exact he.symm)
theorem nod_memT {r : List PT} (h : r.Pairwise (fun a b => a.1 ≠ b.1)) {p q : PT} (hp : p ∈ r) (hq : q ∈ r) (he : p.1 = q.1) : p = q := by
  obtain ⟨i, hi⟩ := List.mem_iff_getElem?.1 hp
  obtain ⟨j, hj⟩ := List.mem_iff_getElem?.1 hq
  have := nod_atT h hi hj he
  subst this
  rw [hi] at hj
  injection hj
theorem findA_noT {r : List PT} {k : ByteArray} (h : findT r k = none) : ∀ p ∈ r, p.1 ≠ k := fun p hp => by
  unfold findT at h
  rw [List.findIdx?_eq_none_iff] at h
  simpa using h p hp
section
variable {l r : List PT}
theorem RlT.find (h : RlT l r) (k : ByteArray) : pbT l k = (findT r k).isSome := by
  rcases h.rise.at k with ⟨A, u, B, e, h1, h2, h3, h4⟩ | ⟨A, B, e, h1, h2, h3, h4⟩
  · rw [h4]
    cases hf : findT r k with
    | some i => rfl
    | none => exact absurd rfl (findA_noT hf (k, u) ((h.mem _).1 (by rw [e]; simp)))
  · rw [h4]
    cases hf : findT r k with
    | none => rfl
    | some i =>
      obtain ⟨v, hv, _⟩ := findA_atT hf
      have hm := (h.mem (k, v)).2 (List.mem_of_getElem? hv)
      rw [e, List.mem_append] at hm
      rcases hm with hm | hm
      · have := h1 _ hm
        simp [ltB_irrefl] at this
      · have := h2 _ hm
        simp [ltB_irrefl] at this
theorem tsetT_length (l : List PT) (k : ByteArray) (x : Int) : (tsetT l k x).length = if pbT l k then l.length else l.length + 1 := by
  unfold tsetT
  cases hb : pbT l k with
  | true =>
    simp only [if_true]
    split
    · simp
    · rfl
  | false =>
    have := plT_le l k
    simp
    (first | omega | grind)
theorem tdropT_length (l : List PT) (k : ByteArray) (h : RiseT l) : (tdropT l k).length = if pbT l k then l.length - 1 else l.length := by
  unfold tdropT
  rcases h.at k with ⟨A, u, B, e, h1, h2, h3, h4⟩ | ⟨A, B, e, h1, h2, h3, h4⟩
  · rw [h4, h3, e]
    simp
  · rw [h4]
    simp
theorem RlT.set (h : RlT l r) (k : ByteArray) (x : Int) : RlT (tsetT l k x) (rsetT r k x) := by
  obtain ⟨h1, h2⟩ := rise_setT h.rise k x
  have hf := h.find k
  refine ⟨h1, ?_, fun p => ?_, ?_⟩
  · unfold rsetT
    cases e : findT r k with
    | some i =>
      obtain ⟨v, hv, hi⟩ := findA_atT e
      simp only
      rw [List.pairwise_iff_getElem]
      intro a b ha hb hab
      rw [List.getElem_set, List.getElem_set]
      have ha' : a < r.length := by simpa using ha
      have hb' : b < r.length := by simpa using hb
      have hn := List.pairwise_iff_getElem.1 h.nod a b ha' hb' hab
      have hri : r[i] = (k, v) := (List.getElem?_eq_some_iff.1 hv).2
      by_cases e1 : i = a
      · subst e1
        rw [if_pos rfl, if_neg (by (first | omega | grind))]
        rw [hri] at hn
        exact hn
      · rw [if_neg e1]
        by_cases e2 : i = b
        · subst e2
          rw [if_pos rfl]
          rw [hri] at hn
          exact hn
        · rw [if_neg e2]
          exact hn
    | none =>
      simp only
      refine List.pairwise_append.2 ⟨h.nod, by simp, fun a ha b hb => ?_⟩
      obtain rfl : b = (k, x) := by simpa using hb
      exact findA_noT e a ha
  · rw [h2 p, h.mem p]
    unfold rsetT
    cases e : findT r k with
    | some i =>
      obtain ⟨v, hv, hi⟩ := findA_atT e
      simp only
      constructor
      · rintro (rfl | ⟨hk, hp⟩)
        · exact List.mem_of_getElem? (List.getElem?_set_self hi)
        · obtain ⟨j, hj⟩ := List.mem_iff_getElem?.1 hp
          refine List.mem_of_getElem? (i := j) ?_
          rw [List.getElem?_set_ne (fun e => ?_)]
          · exact hj
          · subst e
            rw [hv] at hj
            injection hj with hj
            rw [← hj] at hk
            exact hk rfl
      · intro hp
        obtain ⟨j, hj⟩ := List.mem_iff_getElem?.1 hp
        by_cases e2 : i = j
        · subst e2
          rw [List.getElem?_set_self hi] at hj
          injection hj with hj
          exact .inl hj.symm
        · rw [List.getElem?_set_ne e2] at hj
          refine .inr ⟨fun hk => e2 (nod_atT h.nod hv hj hk.symm), List.mem_of_getElem? hj⟩
    | none =>
      simp only [List.mem_append, List.mem_cons, List.not_mem_nil, or_false]
      constructor
      · rintro (rfl | ⟨_, hp⟩)
        · exact .inr rfl
        · exact .inl hp
      · rintro (hp | rfl)
        · exact .inr ⟨findA_noT e p hp, hp⟩
        · exact .inl rfl
  · rw [tsetT_length, hf, h.len]
    unfold rsetT
    cases e : findT r k with
    | some i => simp
    | none => simp
theorem RlT.get (h : RlT l r) (k : ByteArray) : gtT l k = rgetT r k := by
  unfold rgetT
  cases e : findT r k with
  | some i =>
    obtain ⟨v, hv, hi⟩ := findA_atT e
    have : gtT l k = some v := (rise_getT h.rise k v).2 ((h.mem _).2 (List.mem_of_getElem? hv))
    rw [this]
    simp [hv]
  | none =>
    cases hg : gtT l k with
    | none => rfl
    | some v => exact absurd rfl (findA_noT e _ ((h.mem _).1 ((rise_getT h.rise k v).1 hg)))
theorem RlT.drop (h : RlT l r) (k : ByteArray) : RlT (tdropT l k) (rdropT r k) := by
  obtain ⟨h1, h2⟩ := rise_dropT h.rise k
  have hf := h.find k
  cases e : findT r k with
  | none =>
    have e3 : rdropT r k = r := by unfold rdropT; rw [e]
    rw [e3]
    refine ⟨h1, h.nod, fun p => ?_, ?_⟩
    · rw [h2 p, h.mem p]
      exact ⟨fun x => x.2, fun x => ⟨findA_noT e p x, x⟩⟩
    · rw [tdropT_length l k h.rise, hf, e]
      exact h.len
  | some i =>
    obtain ⟨v, hv, hi⟩ := findA_atT e
    obtain ⟨m, hm⟩ : ∃ m, r.length = m + 1 := ⟨r.length - 1, by (first | omega | grind)⟩
    obtain ⟨lp, hlp⟩ : ∃ lp, r[m]? = some lp := ⟨_, List.getElem?_eq_getElem (by (first | omega | grind))⟩
    have e3 : rdropT r k = (r.set i lp).take m := by
      unfold rdropT
      rw [e]
      simp only
      rw [hm, Nat.add_sub_cancel, List.getD_eq_getElem?_getD, hlp]
      rfl
    rw [e3]
    -- where each comes from
    have from_ : ∀ (j : Nat) (p : PT), ((r.set i lp).take m)[j]? = some p → j < m ∧ r[if j = i then m else j]? = some p := fun j p hj => by
      rw [List.getElem?_take] at hj
      split at hj
      · rename_i hjm
        refine ⟨hjm, ?_⟩
        by_cases e2 : j = i
        · subst e2
          rw [List.getElem?_set_self hi] at hj
          rw [if_pos rfl, hlp]
          exact hj
        · rw [List.getElem?_set_ne (Ne.symm e2)] at hj
          rw [if_neg e2]
          exact hj
      · cases hj
    have to_ : ∀ (j : Nat) (p : PT), r[j]? = some p → j ≠ i → p ∈ (r.set i lp).take m := fun j p hj hne => by
      have hjl := (List.getElem?_eq_some_iff.1 hj).1
      by_cases e2 : j = m
      · subst e2
        rw [hlp] at hj
        injection hj with hj
        subst hj
        refine List.mem_of_getElem? (i := i) ?_
        rw [List.getElem?_take, if_pos (by (first | omega | grind)), List.getElem?_set_self hi]
      · refine List.mem_of_getElem? (i := j) ?_
        rw [List.getElem?_take, if_pos (by (first | omega | grind)), List.getElem?_set_ne (Ne.symm hne)]
        exact hj
    refine ⟨h1, ?_, fun p => ?_, ?_⟩
    · rw [List.pairwise_iff_getElem]
      intro a b ha hb hab he
      obtain ⟨a1, a2⟩ := from_ a _ (List.getElem?_eq_getElem ha)
      obtain ⟨b1, b2⟩ := from_ b _ (List.getElem?_eq_getElem hb)
      have := nod_atT h.nod a2 b2 he
      split at this <;> split at this <;> (first | omega | grind)
    · rw [h2 p, h.mem p]
      constructor
      · rintro ⟨hk, hp⟩
        obtain ⟨j, hj⟩ := List.mem_iff_getElem?.1 hp
        refine to_ j p hj (fun e2 => ?_)
        subst e2
        rw [hv] at hj
        injection hj with hj
        rw [← hj] at hk
        exact hk rfl
      · intro hp
        obtain ⟨j, hj⟩ := List.mem_iff_getElem?.1 hp
        obtain ⟨j1, j2⟩ := from_ j p hj
        refine ⟨fun hk => ?_, List.mem_of_getElem? j2⟩
        have := nod_atT h.nod hv j2 hk.symm
        split at this <;> (first | omega | grind)
    · rw [tdropT_length l k h.rise, hf, e, h.len, List.length_take, List.length_set]
      simp
      (first | omega | grind)
theorem nrT_spec (h : RiseT l) (k : ByteArray) : match nrT l k with | none => ∀ p ∈ l, ¬ p.1 ≤ k | some q => q ∈ l ∧ q.1 ≤ k ∧ ∀ p ∈ l, p.1 ≤ k → p.1 ≤ q.1 := by
  rcases h.at k with ⟨A, u, B, e, h1, h2, h3, h4⟩ | ⟨A, B, e, h1, h2, h3, h4⟩
  · have : nrT l k = some (k, u) := by
      unfold nrT
      rw [h4, h3, e]
      simp
    rw [this]
    exact ⟨by rw [e]; simp, leB_refl _, fun p _ hp => hp⟩
  · rcases List.eq_nil_or_concat A with rfl | ⟨A', q, rfl⟩
    · have : nrT l k = none := by
        unfold nrT
        rw [h4, h3]
        simp
      rw [this]
      intro p hp
      rw [e] at hp
      have := h2 p (by simpa using hp)
      (first | omega | grind)
    · have : nrT l k = some q := by
        unfold nrT
        rw [h4, h3, e]
        simp
      rw [this]
      refine ⟨by rw [e]; simp, by have := h1 q (by simp); (first | omega | grind), fun p hp hk => ?_⟩
      rw [e] at hp h
      rcases List.mem_append.1 hp with hp | hp
      · have hp : p ∈ A' ∨ p = q := by simpa using hp
        rcases hp with hp | rfl
        · have h5 := (List.pairwise_append.1 h).1
          have h6 : (A' ++ [q]).Pairwise (fun a b => a.1 < b.1) := by simpa using h5
          have := (List.pairwise_append.1 h6).2.2 p hp q (by simp)
          (first | omega | grind)
        · exact leB_refl _
      · have := h2 p hp
        (first | omega | grind)
theorem nearR_specT (r : List PT) (k : ByteArray) : match nearRT r k with | none => ∀ p ∈ r, ¬ p.1 ≤ k | some q => q ∈ r ∧ q.1 ≤ k ∧ ∀ p ∈ r, p.1 ≤ k → p.1 ≤ q.1 := by
  have key : ∀ (r done : List PT) (s : Option PT), (match s with | none => ∀ p ∈ done, ¬ p.1 ≤ k | some q => q ∈ done ∧ q.1 ≤ k ∧ ∀ p ∈ done, p.1 ≤ k → p.1 ≤ q.1) →
      match r.foldl (bestKT k) s with | none => ∀ p ∈ done ++ r, ¬ p.1 ≤ k | some q => q ∈ done ++ r ∧ q.1 ≤ k ∧ ∀ p ∈ done ++ r, p.1 ≤ k → p.1 ≤ q.1 := fun r => by
    induction r with
    | nil => intro done s hs; simpa using hs
    | cons x r ih =>
      intro done s hs
      have := ih (done ++ [x]) (bestKT k s x) ?_
      · rw [List.foldl_cons]
        rw [List.append_assoc] at this
        exact this
      · unfold bestKT
        cases s with
        | none =>
          simp only at hs ⊢
          by_cases hx : x.1 ≤ k
          · rw [if_pos hx]
            refine ⟨by simp, hx, fun p hp hk => ?_⟩
            rcases List.mem_append.1 hp with hp | hp
            · exact absurd hk (hs p hp)
            · obtain rfl : p = x := by simpa using hp
              exact leB_refl _
          · rw [if_neg hx]
            intro p hp
            rcases List.mem_append.1 hp with hp | hp
            · exact hs p hp
            · obtain rfl : p = x := by simpa using hp
              exact hx
        | some q =>
          simp only at hs ⊢
          obtain ⟨q1, q2, q3⟩ := hs
          by_cases hx : x.1 ≤ k ∧ q.1 < x.1
          · rw [if_pos hx]
            refine ⟨by simp, hx.1, fun p hp hk => ?_⟩
            rcases List.mem_append.1 hp with hp | hp
            · have := q3 p hp hk
              (first | omega | grind)
            · obtain rfl : p = x := by simpa using hp
              exact leB_refl _
          · rw [if_neg hx]
            refine ⟨List.mem_append_left _ q1, q2, fun p hp hk => ?_⟩
            rcases List.mem_append.1 hp with hp | hp
            · exact q3 p hp hk
            · obtain rfl : p = x := by simpa using hp
              (first | omega | grind)
  have := key r [] none (by simp)
  rw [List.nil_append] at this
  exact this
theorem RlT.near (h : RlT l r) (k : ByteArray) : nrT l k = nearRT r k := by
  have a := nrT_spec h.rise k
  have b := nearR_specT r k
  cases e1 : nrT l k with
  | none =>
    rw [e1] at a
    cases e2 : nearRT r k with
    | none => rfl
    | some q =>
      rw [e2] at b
      exact absurd b.2.1 (a q ((h.mem q).2 b.1))
  | some p =>
    rw [e1] at a
    cases e2 : nearRT r k with
    | none =>
      rw [e2] at b
      exact absurd a.2.1 (b p ((h.mem p).1 a.1))
    | some q =>
      rw [e2] at b
      have h1 := a.2.2 q ((h.mem q).2 b.1) b.2.1
      have h2 := b.2.2 p ((h.mem p).1 a.1) a.2.1
      rw [nod_memT h.nod ((h.mem p).1 a.1) b.1 (by (first | omega | grind))]
end
end Go.Proofs.YtdjaalkbpdmdgaaGreat
namespace Go.Proofs.YtdjaalkbpdmdgaaGreat
open Go.RowKit
set_option linter.unusedVariables false

def keysT (l : List PT) : List ByteArray := l.map (·.1)
/-- Where the least of those that are not listed yet (the first j of l are) stands among the first i of r. -/
def LeastT (l r : List PT) (j i : Nat) (at_ : Int) : Prop :=
  (at_ = -1 ∧ ∀ p ∈ r.take i, p ∈ l.take j) ∨ ∃ (a : Nat) (q : PT), at_ = (a : Int) ∧ r[a]? = some q ∧ q ∉ l.take j ∧ ∀ p ∈ r.take i, p ∉ l.take j → q.1 ≤ p.1
theorem rise_outT {l : List PT} (h : RiseT l) {j : Nat} {p q : PT} (hj : 0 < j) (hjl : j ≤ l.length) (hp : p ∈ l) (hq : l[j - 1]? = some q) : p ∉ l.take j ↔ q.1 < p.1 := by
  unfold RiseT at h
  rw [List.pairwise_iff_getElem] at h
  obtain ⟨q1, q2⟩ := List.getElem?_eq_some_iff.1 hq
  obtain ⟨i, hi⟩ := List.mem_iff_getElem?.1 hp
  obtain ⟨i1, i2⟩ := List.getElem?_eq_some_iff.1 hi
  constructor
  · intro hn
    have hge : j ≤ i := by
      by_cases e : j ≤ i
      · exact e
      · exact absurd (List.mem_of_getElem? (i := i) (by rw [List.getElem?_take, if_pos (by (first | omega | grind))]; exact hi)) hn
    have := h (j - 1) i q1 i1 (by (first | omega | grind))
    rw [q2, i2] at this
    exact this
  · intro hlt hm
    obtain ⟨i', hi'⟩ := List.mem_iff_getElem?.1 hm
    rw [List.getElem?_take] at hi'
    split at hi'
    · rename_i hij
      obtain ⟨a1, a2⟩ := List.getElem?_eq_some_iff.1 hi'
      by_cases e : i' = j - 1
      · subst e
        rw [q2] at a2
        rw [a2] at hlt
        (first | omega | grind)
      · have := h i' (j - 1) a1 q1 (by (first | omega | grind))
        rw [a2, q2] at this
        (first | omega | grind)
    · cases hi'
theorem least_endT {l r : List PT} (h : RlT l r) {j : Nat} (hj : j < l.length) {at_ : Int} (hl : LeastT l r j r.length at_) : ∃ (a : Nat) (q : PT), at_ = (a : Int) ∧ r[a]? = some q ∧ l[j]? = some q := by
  have hlj : l[j]? = some l[j] := List.getElem?_eq_getElem hj
  have hr := h.rise
  unfold RiseT at hr
  rw [List.pairwise_iff_getElem] at hr
  have hnot : l[j] ∉ l.take j := fun hm => by
    obtain ⟨i, hi⟩ := List.mem_iff_getElem?.1 hm
    rw [List.getElem?_take] at hi
    split at hi
    · rename_i hij
      obtain ⟨a1, a2⟩ := List.getElem?_eq_some_iff.1 hi
      have := hr i j a1 hj hij
      rw [a2] at this
      (first | omega | grind)
    · cases hi
  have hmr : l[j] ∈ r := (h.mem _).1 (List.mem_of_getElem? hlj)
  rcases hl with ⟨_, h1⟩ | ⟨a, q, h1, h2, h3, h4⟩
  · rw [List.take_of_length_le (Nat.le_refl _)] at h1
    exact absurd (h1 _ hmr) hnot
  · refine ⟨a, q, h1, h2, ?_⟩
    rw [List.take_of_length_le (Nat.le_refl _)] at h4
    have h5 := h4 _ hmr hnot
    obtain ⟨i, hi⟩ := List.mem_iff_getElem?.1 ((h.mem q).2 (List.mem_of_getElem? h2))
    obtain ⟨a1, a2⟩ := List.getElem?_eq_some_iff.1 hi
    have hge : j ≤ i := by
      by_cases e : j ≤ i
      · exact e
      · exact absurd (List.mem_of_getElem? (i := i) (by rw [List.getElem?_take, if_pos (by (first | omega | grind))]; exact hi)) h3
    by_cases e : i = j
    · rw [← e]; exact hi
    · have := hr j i hj a1 (by (first | omega | grind))
      rw [a2] at this
      (first | omega | grind)

set_option maxRecDepth 100000 in
set_option maxHeartbeats 3200000 in
theorem nkeys_any (b0 g : Nat) (kv vv : Value) (l r : List PT) (w : World) (h : RwT b0 w g kv vv r) (hR : RlT l r) (hl : r.length ≤ 1000000) :
    Calls Tryz.prog 98 #[.pointer (some ⟨g, 0, none⟩)] w fun e w' => ∃ v, e = .returned v ∧ Lst w' w.heap.size 9 1 v (keysT l).length (sV (keysT l)) ∧ Fr [] w w' := by
  have H0 := Lib.hid h
  have HR := Lib.hid hR
  obtain ⟨n, hn⟩ : ∃ n, r.length = n := ⟨_, rfl⟩
  have HN : Hid (r.length = n ∧ l.length = n ∧ (keysT l).length = n) := ⟨hn, by rw [hR.len, hn], by unfold keysT; rw [List.length_map, hR.len, hn]⟩
  rw [hn] at hl
  obtain ⟨A, cp, hv, _, _⟩ := h.K.look
  rw [rkT_len, hn] at hv
  have HCL : Hid (∀ Z, Fr [] w Z → Z.cell? ⟨g, 0, none⟩ = some (.slice A n cp) ∧ Lst Z b0 9 1 (.slice A n cp) n (rkT r)) := fun Z hf => by
    have hz := H0.out.fr hf (fun x _ => by simp)
    have hk := hz.K
    rw [rkT_len, HN.out.1, hv] at hk
    exact ⟨by rw [← hv]; exact hz.B.cell 0, hk⟩
  obtain ⟨c0, _⟩ := HCL.out w (Fr.refl _ _)
  obtain ⟨i2', hi2, hz2, hs2, hb2⟩ := info_parts' str_info
  clear h hn hv hR
  go_enter Tryz.func98, Tryz.ntmps98
  go_wp2_with fail
  go_loopw [3] (fun v wr => ∃ j : Nat, j ≤ n ∧ Hid (∃ Av cv, v = .slice Av j cv ∧ Lst wr w.heap.size 9 1 v j (sV ((keysT l).take j)) ∧ Fr [] w wr)) (fun v _ => n - (match v with | .slice _ j _ => j | _ => 0))
  case atStart => exact ⟨0, by (first | omega | grind), none, 0, rfl, Lst.nil _ _ _ _, Fr.refl _ _⟩
  case round =>
    obtain ⟨j, hj, hx⟩ := hrel
    obtain ⟨Av, cv, rfl, hL, hW⟩ := hx.out
    have HL := Lib.hid hL
    have HW := Lib.hid hW
    clear hx hL hW c0
    obtain ⟨c0, hK⟩ := HCL.out wr HW.out
    by_cases hlt : j < n
    · have d1 : decide ((j : Int) < (n : Int)) = true := decide_eq_true (by (first | omega | grind))
      have hLS : Hid (LeastT l r j 0 (-1)) := .inl ⟨rfl, fun p hp => by simp at hp⟩
      go_wp2_with fail
      obtain ⟨wo, rfl⟩ : ∃ wo, wo = wr := ⟨_, rfl⟩
      go_loopw [4, 5] (fun a i wr2 => ∃ (x : Nat) (at_ : Int), x ≤ n ∧ i = .int .i64 x ∧ a = .int .i64 at_ ∧ Hid (Fr [] wo wr2 ∧ LeastT l r j x at_)) (fun _ i _ => n - (intOf i).toNat)
      case atStart => exact ⟨0, -1, by (first | omega | grind), rfl, rfl, Fr.refl _ _, hLS.out⟩
      case round =>
        obtain ⟨i, at_, hi, rfl, rfl, hx⟩ := hrel
        have HW2 := Lib.hid hx.1
        have HLE := Lib.hid hx.2
        clear hx
        have HW3 := Lib.hid (HW.out.trans HW2.out (by simp))
        obtain ⟨c0, hK⟩ := HCL.out wr HW3.out
        have HL3 := Lib.hid (HL.out.fr HW2.out (by simp))
        by_cases hlti : i < n
        · obtain ⟨p, hp⟩ : ∃ p, r[i]? = some p := ⟨_, List.getElem?_eq_getElem (by have := HN.out.1; (first | omega | grind))⟩
          have HPI := Lib.hid hp
          have htk : r.take (i + 1) = r.take i ++ [p] := by
            obtain ⟨q1, q2⟩ := List.getElem?_eq_some_iff.1 hp
            rw [List.take_succ_eq_append_getElem q1, q2]
          obtain ⟨gl, off, cap, hq, _, _, _, _, _, _, hcl⟩ := hK.form (by (first | omega | grind))
          injection hq with q1 _ q3
          subst q1 q3
          have cx := hcl i _ (rkT_at hp)
          have hk1 : kT p.1 = .string p.1 := rfl
          rw [hk1] at cx
          obtain ⟨pk, HPX⟩ : ∃ pk, p.1 = pk := ⟨_, rfl⟩
          rw [HPX] at cx
          have i0 : (0 : Int) ≤ (i : Int) := by (first | omega | grind)
          have i1 : (i : Int) < (n : Int) := by (first | omega | grind)
          have i2 : decide ((i : Int) < (n : Int)) = true := decide_eq_true i1
          clear hp hK hk1
          by_cases hj0 : j = 0
          · have hout : p ∉ l.take j := by rw [hj0]; simp
            have d0 : (((j : Nat) : Int) == 0) = true := by rw [hj0]; rfl
            clear hj0
            rcases HLE.out with ⟨rfl, hle⟩ | ⟨a, q, rfl, hqa, hqn, hle⟩
            · have HNEW : Hid (LeastT l r j (i + 1) (i : Int)) := by
                refine .inr ⟨i, p, rfl, HPI.out, hout, fun p' hp' hn' => ?_⟩
                rw [htk] at hp'
                rcases List.mem_append.1 hp' with e | e
                · exact absurd (hle p' e) hn'
                · obtain rfl : p' = p := by simpa using e
                  exact leB_refl _
              clear hout htk hcl hle HPX
              go_upto_region 7 with fail
              go_quiet (fail)
              go_wp2_with fail
              go_roundw
              case rel => exact ⟨i + 1, i, by (first | omega | grind), by go_num, rfl, HW2.out.drewN _, HNEW.out⟩
              case measure => simp [intOf]; (first | omega | grind)
            · have cq := hcl a _ (rkT_at hqa)
              have hal : a < n := by have := (List.getElem?_eq_some_iff.1 hqa).1; have := HN.out.1; (first | omega | grind)
              have a0 : (0 : Int) ≤ (a : Int) := by (first | omega | grind)
              have a1 : (a : Int) < (n : Int) := by (first | omega | grind)
              have a2 : decide ((a : Int) < 0) = false := decide_eq_false (by (first | omega | grind))
              have hq1 : kT q.1 = .string q.1 := rfl
              rw [hq1] at cq
              obtain ⟨qk, hqk⟩ : ∃ qk, q.1 = qk := ⟨_, rfl⟩
              rw [hqk] at cq
              by_cases h2 : pk < qk
              · have d2 : Op.bytesLess pk.toList qk.toList = true := by rw [lssB]; exact decide_eq_true h2
                have HNEW : Hid (LeastT l r j (i + 1) (i : Int)) := by
                  refine .inr ⟨i, p, rfl, HPI.out, hout, fun p' hp' hn' => ?_⟩
                  rw [htk] at hp'
                  rcases List.mem_append.1 hp' with e | e
                  · have := hle p' e hn'
                    (first | omega | grind)
                  · obtain rfl : p' = p := by simpa using e
                    exact leB_refl _
                clear hout htk hcl hle hqa hqn hqk hq1 HPX
                go_upto_region 7 with fail
                go_quiet (fail)
                go_wp2_with fail
                go_roundw
                case rel => exact ⟨i + 1, i, by (first | omega | grind), by go_num, rfl, HW2.out.drewN _, HNEW.out⟩
                case measure => simp [intOf]; (first | omega | grind)
              · have d2 : Op.bytesLess pk.toList qk.toList = false := by rw [lssB]; exact decide_eq_false h2
                have HNEW : Hid (LeastT l r j (i + 1) (a : Int)) := by
                  refine .inr ⟨a, q, rfl, hqa, hqn, fun p' hp' hn' => ?_⟩
                  rw [htk] at hp'
                  rcases List.mem_append.1 hp' with e | e
                  · exact hle p' e hn'
                  · obtain rfl : p' = p := by simpa using e
                    (first | omega | grind)
                clear hout htk hcl hle hqa hqn hqk hq1 HPX
                go_upto_region 7 with fail
                go_quiet (fail)
                go_wp2_with fail
                go_roundw
                case rel => exact ⟨i + 1, a, by (first | omega | grind), by go_num, rfl, HW2.out.drewN _, HNEW.out⟩
                case measure => simp [intOf]; (first | omega | grind)
          · have d0 : (((j : Nat) : Int) == 0) = false := by simpa using (show ¬ ((j : Nat) : Int) = 0 by (first | omega | grind))
            obtain ⟨lp, hlp⟩ : ∃ lp, l[j - 1]? = some lp := ⟨_, List.getElem?_eq_getElem (by have := HN.out.2.1; (first | omega | grind))⟩
            obtain ⟨gb, ob, cb, hvq, _, _, _, _, _, _, hco⟩ := HL3.out.form (by (first | omega | grind))
            injection hvq with r1 _ r3
            subst r1 r3
            have cl := hco (j - 1) (.string lp.1) (sV_at (by rw [List.getElem?_take, if_pos (by (first | omega | grind))]; unfold keysT; rw [List.getElem?_map, hlp]; rfl))
            obtain ⟨lk, hlk⟩ : ∃ lk, lp.1 = lk := ⟨_, rfl⟩
            rw [hlk] at cl
            have hro := rise_outT HR.out.rise (j := j) (by (first | omega | grind)) (by have := HN.out.2.1; (first | omega | grind)) ((HR.out.mem p).2 (List.mem_of_getElem? HPI.out)) hlp
            rw [hlk, HPX] at hro
            obtain ⟨jm, hjm⟩ : ∃ jm, j - 1 = jm := ⟨_, rfl⟩
            rw [hjm] at cl
            have w1 : IntKind.i64.wrap (((j : Nat) : Int) - 1) = (jm : Int) := by rw [show ((j : Nat) : Int) - 1 = (jm : Int) by (first | omega | grind)]; exact IntWalk.i64_in _ (by (first | omega | grind))
            have j0 : (0 : Int) ≤ (jm : Int) := by (first | omega | grind)
            have j1 : (jm : Int) < (j : Int) := by (first | omega | grind)
            clear hco hlp hlk hjm
            by_cases hgt : lk < pk
            · have d3 : (Op.bytesLess pk.toList lk.toList || pk.toList == lk.toList) = false := by rw [leqB]; exact decide_eq_false (by grind)
              have hout : p ∉ l.take j := hro.2 hgt
              clear hro
              rcases HLE.out with ⟨rfl, hle⟩ | ⟨a, q, rfl, hqa, hqn, hle⟩
              · have HNEW : Hid (LeastT l r j (i + 1) (i : Int)) := by
                  refine .inr ⟨i, p, rfl, HPI.out, hout, fun p' hp' hn' => ?_⟩
                  rw [htk] at hp'
                  rcases List.mem_append.1 hp' with e | e
                  · exact absurd (hle p' e) hn'
                  · obtain rfl : p' = p := by simpa using e
                    exact leB_refl _
                clear hout htk hcl hle HPX
                go_upto_region 7 with fail
                go_quiet (fail)
                go_wp2_with fail
                go_roundw
                case rel => exact ⟨i + 1, i, by (first | omega | grind), by go_num, rfl, HW2.out.drewN _, HNEW.out⟩
                case measure => simp [intOf]; (first | omega | grind)
              · have cq := hcl a _ (rkT_at hqa)
                have hal : a < n := by have := (List.getElem?_eq_some_iff.1 hqa).1; have := HN.out.1; (first | omega | grind)
                have a0 : (0 : Int) ≤ (a : Int) := by (first | omega | grind)
                have a1 : (a : Int) < (n : Int) := by (first | omega | grind)
                have a2 : decide ((a : Int) < 0) = false := decide_eq_false (by (first | omega | grind))
                have hq1 : kT q.1 = .string q.1 := rfl
                rw [hq1] at cq
                obtain ⟨qk, hqk⟩ : ∃ qk, q.1 = qk := ⟨_, rfl⟩
                rw [hqk] at cq
                by_cases h2 : pk < qk
                · have d2 : Op.bytesLess pk.toList qk.toList = true := by rw [lssB]; exact decide_eq_true h2
                  have HNEW : Hid (LeastT l r j (i + 1) (i : Int)) := by
                    refine .inr ⟨i, p, rfl, HPI.out, hout, fun p' hp' hn' => ?_⟩
                    rw [htk] at hp'
                    rcases List.mem_append.1 hp' with e | e
                    · have := hle p' e hn'
                      (first | omega | grind)
                    · obtain rfl : p' = p := by simpa using e
                      exact leB_refl _
                  clear hout htk hcl hle hqa hqn hqk hq1 HPX
                  go_upto_region 7 with fail
                  go_quiet (fail)
                  go_wp2_with fail
                  go_roundw
                  case rel => exact ⟨i + 1, i, by (first | omega | grind), by go_num, rfl, HW2.out.drewN _, HNEW.out⟩
                  case measure => simp [intOf]; (first | omega | grind)
                · have d2 : Op.bytesLess pk.toList qk.toList = false := by rw [lssB]; exact decide_eq_false h2
                  have HNEW : Hid (LeastT l r j (i + 1) (a : Int)) := by
                    refine .inr ⟨a, q, rfl, hqa, hqn, fun p' hp' hn' => ?_⟩
                    rw [htk] at hp'
                    rcases List.mem_append.1 hp' with e | e
                    · exact hle p' e hn'
                    · obtain rfl : p' = p := by simpa using e
                      (first | omega | grind)
                  clear hout htk hcl hle hqa hqn hqk hq1 HPX
                  go_upto_region 7 with fail
                  go_quiet (fail)
                  go_wp2_with fail
                  go_roundw
                  case rel => exact ⟨i + 1, a, by (first | omega | grind), by go_num, rfl, HW2.out.drewN _, HNEW.out⟩
                  case measure => simp [intOf]; (first | omega | grind)
            · have d3 : (Op.bytesLess pk.toList lk.toList || pk.toList == lk.toList) = true := by rw [leqB]; exact decide_eq_true (by grind)
              have HNEW : Hid (LeastT l r j (i + 1) at_) := by
                have hin : p ∈ l.take j := by
                  by_cases e : p ∈ l.take j
                  · exact e
                  · exact absurd (hro.1 e) hgt
                rcases HLE.out with ⟨e, hle⟩ | ⟨a, q, e, hqa, hqn, hle⟩
                · refine .inl ⟨e, fun p' hp' => ?_⟩
                  rw [htk] at hp'
                  rcases List.mem_append.1 hp' with e | e
                  · exact hle p' e
                  · obtain rfl : p' = p := by simpa using e
                    exact hin
                · refine .inr ⟨a, q, e, hqa, hqn, fun p' hp' hn' => ?_⟩
                  rw [htk] at hp'
                  rcases List.mem_append.1 hp' with e | e
                  · exact hle p' e hn'
                  · obtain rfl : p' = p := by simpa using e
                    exact absurd hin hn'
              clear hro htk hcl HPX
              go_upto_region 7 with fail
              go_quiet (fail)
              go_wp2_with fail
              go_roundw
              case rel => exact ⟨i + 1, at_, by (first | omega | grind), by go_num, rfl, HW2.out.drewN _, HNEW.out⟩
              case measure => simp [intOf]; (first | omega | grind)
        · obtain rfl : n = i := by (first | omega | grind)
          have i2 : decide ((n : Int) < (n : Int)) = false := decide_eq_false (by (first | omega | grind))
          have hle := HLE.out
          rw [← HN.out.1] at hle
          obtain ⟨a, q, rfl, hqa, hlj⟩ := least_endT HR.out (by have := HN.out.2.1; (first | omega | grind)) hle
          have hal : a < n := by have := (List.getElem?_eq_some_iff.1 hqa).1; have := HN.out.1; (first | omega | grind)
          obtain ⟨gl, off, cap, hq, _, _, _, _, _, _, hcl⟩ := hK.form (by (first | omega | grind))
          injection hq with q1 _ q3
          subst q1 q3
          have cq := hcl a _ (rkT_at hqa)
          have hq1 : kT q.1 = .string q.1 := rfl
          rw [hq1] at cq
          have HTK : Hid ((keysT l).take (j + 1) = (keysT l).take j ++ [q.1]) := by
            have h1 : (keysT l)[j]? = some q.1 := by unfold keysT; rw [List.getElem?_map, hlj]; rfl
            obtain ⟨h1, h2⟩ := List.getElem?_eq_some_iff.1 h1
            show _ = _
            rw [List.take_succ_eq_append_getElem h1, h2]
          obtain ⟨qk, hqk⟩ : ∃ qk, q.1 = qk := ⟨_, rfl⟩
          rw [hqk] at cq HTK
          have a0 : (0 : Int) ≤ (a : Int) := by (first | omega | grind)
          have a1 : (a : Int) < (n : Int) := by (first | omega | grind)
          have hsz := HW3.out.size
          clear hle hqa hlj hcl hq1 hqk hK
          go_wp2_with (at_builtin; refine wpList_append_lst _ rfl (.tmp 64) (.tmp 72) _ rfl w.heap.size 9 i2' _ 1 16 Tryz.underlying72 hi2 hz2 hs2 hb2 rfl _ j (sV ((keysT l).take j)) rfl (HL3.out.alloc _) ⟨wr.heap.size, 0, none⟩ 1 1 [.string qk] rfl rfl (World.news_of_block (heap_alloc_new _ _)) ?c2 ?c3 ?c4 ?c5 ?c6)
          case c2 => simp [Value.oneCell']
          case c3 => unfold maxLen; (first | omega | grind)
          case c4 => (first | omega | grind)
          case c5 => first | (first | omega | grind) | (simp; (first | omega | grind))
          case c6 =>
            intro v2 w2 hown hgrow hat
            obtain ⟨A9, c9, rfl, _, _⟩ := hown.look
            have HX : Hid (∃ Av cv, Value.slice A9 (j + 1) c9 = .slice Av (j + 1) cv ∧ Lst w2 w.heap.size 9 1 (.slice A9 (j + 1) c9) (j + 1) (sV ((keysT l).take (j + 1))) ∧ Fr [] w w2) := by
              refine ⟨A9, c9, rfl, ?_, (HW3.out.alloc _).grown hgrow (fun j hj => .inr (HL3.out.lt j hj).1)⟩
              rw [HTK.out]
              unfold sV at hown ⊢
              rw [List.map_append]
              exact hown
            clear hown hgrow hat
            go_wp2
            go_roundw
            case rel => exact ⟨j + 1, by (first | omega | grind), HX.out⟩
            case measure => simp; (first | omega | grind)
    · obtain rfl : n = j := by (first | omega | grind)
      have hall : (keysT l).take n = keysT l := List.take_of_length_le (by have := HN.out.2.2; (first | omega | grind))
      rw [hall] at HL
      have d1 : decide ((n : Int) < (n : Int)) = false := decide_eq_false (by (first | omega | grind))
      have HE : Hid (∃ v, Ending.returned (Value.slice Av n cv) = .returned v ∧ Lst wr w.heap.size 9 1 v (keysT l).length (sV (keysT l)) ∧ Fr [] w wr) := ⟨_, rfl, by rw [HN.out.2.2]; exact HL.out, HW.out⟩
      clear hall hK
      go_wp2_with fail
      go_ret
      exact HE.out
end Go.Proofs.YtdjaalkbpdmdgaaGreat
namespace Go.Proofs.YtdjaalkbpdmdgaaGreat
open Go.RowKit
set_option linter.unusedVariables false

section
variable {w0 w w' : World} {Ts : List (Th w0.heap.size)} {e : Ending} {res v kv vv kv' vv' : Value} {g i : Nat}
theorem Sg.tbT {l l' : List PT} (h : Sg w0 Ts w) (hi : Ts[i]? = some (thTbT w0.heap.size g v l)) (ho : TbTTo w0.heap.size g v l' res w e w') : e = .returned res ∧ ∃ v', Sg w0 (Ts.set i (thTbT w0.heap.size g v' l')) w' := by
  obtain ⟨h1, v', h2, h3, h4⟩ := ho
  exact ⟨h1, v', h.set hi h3 h2 h4⟩
theorem Sg.tbT_at {l : List PT} (h : Sg w0 Ts w) (hi : Ts[i]? = some (thTbT w0.heap.size g v l)) : TbT w0.heap.size w g v l := h.ok i _ hi

end
def gXT (o : Option Int) : Int := match o with | some p => p | none => 0
def gBT (o : Option Int) : Bool := match o with | some _ => true | none => false
def nXT (o : Option PT) : ByteArray := match o with | some p => p.1 | none => ⟨#[]⟩
def nYT (o : Option PT) : Int := match o with | some p => p.2 | none => 0
def nBT (o : Option PT) : Bool := match o with | some _ => true | none => false
theorem nearT_of {o : Option PT} {w w' : World} {e : Ending} (h : NearT o w e w') : e = .returned (.tuple #[.string (nXT o), .int .i64 (nYT o), .bool (nBT o)]) ∧ Fr [] w w' := by
  obtain ⟨h1, h2⟩ := h
  exact ⟨by rw [h1]; cases o <;> rfl, h2⟩
/-- What a call of the desk leaves: a table and the document's, both turned alike. -/
def DoM (w0 : World) (Ts : List (Th w0.heap.size)) (gs gr ja jb : Nat) (l r : List PT) (e : Ending) (w' : World) : Prop :=
  e = .returned (.bool true) ∧ ∃ Ts' v kv vv, Sg w0 Ts' w' ∧ Chg Ts Ts' ja jb ∧ Ts'[ja]? = some (thTbT w0.heap.size gs v l) ∧ Ts'[jb]? = some (thRw 74 9 3 w0.heap.size gr kv vv (rkT r) (rvT r))
theorem DoM.of {w0 w' : World} {Ts : List (Th w0.heap.size)} {gs gr ja jb : Nat} {l r : List PT} {Us Tx : List (Th w0.heap.size)} {v kv vv : Value} (hx : Sg w0 Tx w') (hc : Chg (Ts ++ Us) Tx ja jb) (ha : ja < Ts.length) (hb : jb < Ts.length)
    (h1 : Tx[ja]? = some (thTbT w0.heap.size gs v l)) (h2 : Tx[jb]? = some (thRw 74 9 3 w0.heap.size gr kv vv (rkT r) (rvT r))) : DoM w0 Ts gs gr ja jb l r (.returned (.bool true)) w' := by
  refine ⟨rfl, Tx.take Ts.length, v, kv, vv, hx.take _, hc.cut ha hb, ?_, ?_⟩
  · rw [List.getElem?_take, if_pos ha]; exact h1
  · rw [List.getElem?_take, if_pos hb]; exact h2

set_option maxRecDepth 100000 in
set_option maxHeartbeats 1600000 in
theorem d_name_set {w0 w : World} {Ts : List (Th w0.heap.size)} {gd i gs gr ja jb : Nat} {cs : Array Value} {v kv vv : Value} {l r : List PT} (hi : i < 2) (h : Sg w0 Ts w) (hd : Ts[0]? = some (thBox w0.heap.size gd 52 cs)) (hc0 : cs[8 + i]? = some (.pointer (some ⟨gs, 0, none⟩))) (hc1 : cs[18 + i]? = some (.pointer (some ⟨gr, 0, none⟩))) (ha : Ts[ja]? = some (thTbT w0.heap.size gs v l)) (hb : Ts[jb]? = some (thRw 74 9 3 w0.heap.size gr kv vv (rkT r) (rvT r))) (hab : ja ≠ jb) (h0a : ja ≠ 0) (h0b : jb ≠ 0) (hR : RlT l r) (hL : l.length ≤ 100000) (s : Bool) (n : Int) (x : Int) (str : ByteArray) (stop : Int) :
    Calls Tryz.prog 24 #[.pointer (some ⟨gd, 0, none⟩), .agg #[.int .i64 21, .bool s, .int .i64 n, .int .u64 x, .string str, .int .i64 stop], .int .i64 i] w (DoM w0 Ts gs gr ja jb (tsetT l str n) (rsetT r str n)) := by
  have hla := (List.getElem?_eq_some_iff.1 ha).1
  have hlb := (List.getElem?_eq_some_iff.1 hb).1
  have hl0 := (List.getElem?_eq_some_iff.1 hd).1
  have hlr : r.length ≤ 100000 := by rw [← hR.len]; exact hL
  obtain ⟨kb, hkb⟩ : ∃ kb, w.heap.size = kb := ⟨_, rfl⟩
  obtain ⟨OP, hOP⟩ : ∃ OP : Array Value, #[.int .i64 21, .bool s, .int .i64 n, .int .u64 x, .string str, .int .i64 stop] = OP := ⟨_, rfl⟩
  have h1 := h.box 31 OP
  rw [hkb] at h1
  obtain ⟨Tx, hTx⟩ : ∃ Tx, Ts ++ [thBox w0.heap.size kb 31 OP] = Tx := ⟨_, rfl⟩
  rw [hTx] at h1
  have ta : Tx[ja]? = some (thTbT w0.heap.size gs v l) := by rw [← hTx, List.getElem?_append_left hla]; exact ha
  have tb : Tx[jb]? = some (thRw 74 9 3 w0.heap.size gr kv vv (rkT r) (rvT r)) := by rw [← hTx, List.getElem?_append_left hlb]; exact hb
  have t0 : Tx[0]? = some (thBox w0.heap.size gd 52 cs) := by rw [← hTx, List.getElem?_append_left hl0]; exact hd
  have tx : Tx[Ts.length]? = some (thBox w0.heap.size kb 31 OP) := by rw [← hTx, List.getElem?_append_right (Nat.le_refl _)]; simp
  obtain ⟨wa, hwa⟩ : ∃ wa, wa = w.alloc (.cells OP 31) := ⟨_, rfl⟩
  rw [← hwa] at h1
  have HOP : Hid (∀ Z, Bk Z kb 31 OP → Z.cell? ⟨kb, 0, none⟩ = some (.int .i64 21) ∧ Z.cell? ⟨kb, 2, none⟩ = some (.int .i64 n) ∧ Z.cell? ⟨kb, 3, none⟩ = some (.int .u64 x) ∧ Z.cell? ⟨kb, 4, none⟩ = some (.string str) ∧ Z.cell? ⟨kb, 5, none⟩ = some (.int .i64 stop)) := fun Z hz => by
    rw [← hOP] at hz
    exact ⟨hz.cell 0, hz.cell 2, hz.cell 3, hz.cell 4, hz.cell 5⟩
  have d0 : w.cell? ⟨gd, 8 + i, none⟩ = some (.pointer (some ⟨gs, 0, none⟩)) := by rw [(h.bk hd).cell]; exact hc0
  have d1 : w.cell? ⟨gd, 18 + i, none⟩ = some (.pointer (some ⟨gr, 0, none⟩)) := by rw [(h.bk hd).cell]; exact hc1
  have hgl : gd < w.heap.size := (h.bk hd).lt
  have d0' : wa.cell? ⟨gd, 8 + i, none⟩ = some (.pointer (some ⟨gs, 0, none⟩)) := by rw [(h1.bk t0).cell]; exact hc0
  have d1' : wa.cell? ⟨gd, 18 + i, none⟩ = some (.pointer (some ⟨gr, 0, none⟩)) := by rw [(h1.bk t0).cell]; exact hc1
  obtain ⟨e0, e2, e3, e4, e5⟩ := HOP.out wa (h1.bk tx)
  have i0 : (0 : Int) ≤ (i : Int) := by omega
  have i1 : (i : Int) < 2 := by omega
  have HWA := Lib.hid hwa
  have HOPE := Lib.hid hOP
  have HTX := Lib.hid hTx
  have H1 := Lib.hid h1
  have TA := Lib.hid ta
  have TB := Lib.hid tb
  have TX := Lib.hid tx
  have HLA : Hid (ja < Ts.length ∧ jb < Ts.length ∧ ja ≠ jb) := ⟨hla, hlb, hab⟩
  have HB0 := Lib.hid h1.fr.size
  have hkb0 := hkb
  have HC1 := Lib.hid (setT_any w0.heap.size gs v l str n wa (h1.tbT_at ta) (by omega) h1.fr.size)
  obtain ⟨B, hB⟩ : ∃ B, (!pbT l str) = B := ⟨_, rfl⟩
  have hB2 : (findT r str).isNone = B := by rw [← hB, hR.find]; cases findT r str <;> rfl
  obtain ⟨l2, hl2⟩ : ∃ l2, tsetT l str n = l2 := ⟨_, rfl⟩
  obtain ⟨r2, hr2⟩ : ∃ r2, rsetT r str n = r2 := ⟨_, rfl⟩
  rw [hB, hl2] at HC1
  have HRP : Hid (∀ Z, Sg w0 (Tx.set ja (thTbT w0.heap.size gs v l)) Z → True) := fun _ _ => trivial
  have HRQ : Hid (∀ Z, Rw 74 9 3 w0.heap.size Z gr kv vv (rkT r) (rvT r) → w0.heap.size ≤ Z.heap.size → Calls Tryz.prog 67 #[.pointer (some ⟨gr, 0, none⟩), .string str, .int .i64 n] Z fun e w' => e = .returned (.bool B) ∧ ∃ kv' vv', RwS 74 9 3 w0.heap.size gr kv vv Z kv' vv' (rkT r2) (rvT r2) w') := fun Z hz hzs => by
    rw [← hr2, ← hB2]
    exact nset_any w0.heap.size gr kv vv r str n Z hz (by omega) hzs
  have x1 : (B == B) = true := by simp
  rw [hl2, hr2]
  clear h hd hc0 hc1 ha hb hla hlb hl0 hab h0a h0b h1 ta tb t0 tx hOP hTx hwa hR hlr hB hB2 hl2 hr2 HRP
  go_enter Tryz.func24, Tryz.ntmps24
  go_upto_region 1 with fail
  rw [HOPE.out, ← HWA.out]
  clear d0 d1
  go_wp2_with fail
  refine (Calls.mono HC1.out ?_)
  rintro en w1 ho
  obtain ⟨rfl, v', h2⟩ := H1.out.tbT TA.out ho
  obtain ⟨Ty, hTy⟩ : ∃ Ty, Tx.set ja (thTbT w0.heap.size gs v' l2) = Ty := ⟨_, rfl⟩
  rw [hTy] at h2
  have tb2 : Ty[jb]? = some (thRw 74 9 3 w0.heap.size gr kv vv (rkT r) (rvT r)) := by rw [← hTy, List.getElem?_set_ne HLA.out.2.2]; exact TB.out
  have tx2 : Ty[Ts.length]? = some (thBox w0.heap.size kb 31 OP) := by rw [← hTy, List.getElem?_set_ne (by have := HLA.out.1; omega)]; exact TX.out
  have H3 := Lib.hid h2
  have HC2 := Lib.hid (HRQ.out _ (h2.rw_at tb2) h2.fr.size)
  have HTY := Lib.hid hTy
  have TB2 := Lib.hid tb2
  clear e0 e2 e3 e4 e5 d0' d1'
  obtain ⟨_, e2, e3, e4, _⟩ := HOP.out _ (h2.bk tx2)
  clear ho h2 hTy tb2 tx2
  go_wp2_with fail
  refine (Calls.mono HC2.out ?_)
  rintro en z ⟨rfl, kv', vv', ho⟩
  have H4 := Lib.hid (H3.out.rw TB2.out ho)
  clear ho
  go_wp2_with fail
  go_ret
  refine DoM.of (Us := [thBox w0.heap.size kb 31 OP]) H4.out ?_ HLA.out.1 HLA.out.2.1 (v := v') (kv := kv') (vv := vv') ?_ ?_
  · rw [← HTY.out, HTX.out]
    exact ((Chg.refl _ _ _).set1 _).set2 _
  · rw [List.getElem?_set_ne (Ne.symm HLA.out.2.2), ← HTY.out, List.getElem?_set_self (by rw [← HTX.out, List.length_append]; have := HLA.out.1; omega)]
  · rw [List.getElem?_set_self (by rw [← HTY.out, List.length_set, ← HTX.out, List.length_append]; have := HLA.out.2.1; omega)]

set_option maxRecDepth 100000 in
set_option maxHeartbeats 1600000 in
theorem d_name_drop {w0 w : World} {Ts : List (Th w0.heap.size)} {gd i gs gr ja jb : Nat} {cs : Array Value} {v kv vv : Value} {l r : List PT} (hi : i < 2) (h : Sg w0 Ts w) (hd : Ts[0]? = some (thBox w0.heap.size gd 52 cs)) (hc0 : cs[8 + i]? = some (.pointer (some ⟨gs, 0, none⟩))) (hc1 : cs[18 + i]? = some (.pointer (some ⟨gr, 0, none⟩))) (ha : Ts[ja]? = some (thTbT w0.heap.size gs v l)) (hb : Ts[jb]? = some (thRw 74 9 3 w0.heap.size gr kv vv (rkT r) (rvT r))) (hab : ja ≠ jb) (h0a : ja ≠ 0) (h0b : jb ≠ 0) (hR : RlT l r) (hL : l.length ≤ 100000) (s : Bool) (n : Int) (x : Int) (str : ByteArray) (stop : Int) :
    Calls Tryz.prog 24 #[.pointer (some ⟨gd, 0, none⟩), .agg #[.int .i64 23, .bool s, .int .i64 n, .int .u64 x, .string str, .int .i64 stop], .int .i64 i] w (DoM w0 Ts gs gr ja jb (tdropT l str) (rdropT r str)) := by
  have hla := (List.getElem?_eq_some_iff.1 ha).1
  have hlb := (List.getElem?_eq_some_iff.1 hb).1
  have hl0 := (List.getElem?_eq_some_iff.1 hd).1
  have hlr : r.length ≤ 100000 := by rw [← hR.len]; exact hL
  obtain ⟨kb, hkb⟩ : ∃ kb, w.heap.size = kb := ⟨_, rfl⟩
  obtain ⟨OP, hOP⟩ : ∃ OP : Array Value, #[.int .i64 23, .bool s, .int .i64 n, .int .u64 x, .string str, .int .i64 stop] = OP := ⟨_, rfl⟩
  have h1 := h.box 31 OP
  rw [hkb] at h1
  obtain ⟨Tx, hTx⟩ : ∃ Tx, Ts ++ [thBox w0.heap.size kb 31 OP] = Tx := ⟨_, rfl⟩
  rw [hTx] at h1
  have ta : Tx[ja]? = some (thTbT w0.heap.size gs v l) := by rw [← hTx, List.getElem?_append_left hla]; exact ha
  have tb : Tx[jb]? = some (thRw 74 9 3 w0.heap.size gr kv vv (rkT r) (rvT r)) := by rw [← hTx, List.getElem?_append_left hlb]; exact hb
  have t0 : Tx[0]? = some (thBox w0.heap.size gd 52 cs) := by rw [← hTx, List.getElem?_append_left hl0]; exact hd
  have tx : Tx[Ts.length]? = some (thBox w0.heap.size kb 31 OP) := by rw [← hTx, List.getElem?_append_right (Nat.le_refl _)]; simp
  obtain ⟨wa, hwa⟩ : ∃ wa, wa = w.alloc (.cells OP 31) := ⟨_, rfl⟩
  rw [← hwa] at h1
  have HOP : Hid (∀ Z, Bk Z kb 31 OP → Z.cell? ⟨kb, 0, none⟩ = some (.int .i64 23) ∧ Z.cell? ⟨kb, 2, none⟩ = some (.int .i64 n) ∧ Z.cell? ⟨kb, 3, none⟩ = some (.int .u64 x) ∧ Z.cell? ⟨kb, 4, none⟩ = some (.string str) ∧ Z.cell? ⟨kb, 5, none⟩ = some (.int .i64 stop)) := fun Z hz => by
    rw [← hOP] at hz
    exact ⟨hz.cell 0, hz.cell 2, hz.cell 3, hz.cell 4, hz.cell 5⟩
  have d0 : w.cell? ⟨gd, 8 + i, none⟩ = some (.pointer (some ⟨gs, 0, none⟩)) := by rw [(h.bk hd).cell]; exact hc0
  have d1 : w.cell? ⟨gd, 18 + i, none⟩ = some (.pointer (some ⟨gr, 0, none⟩)) := by rw [(h.bk hd).cell]; exact hc1
  have hgl : gd < w.heap.size := (h.bk hd).lt
  have d0' : wa.cell? ⟨gd, 8 + i, none⟩ = some (.pointer (some ⟨gs, 0, none⟩)) := by rw [(h1.bk t0).cell]; exact hc0
  have d1' : wa.cell? ⟨gd, 18 + i, none⟩ = some (.pointer (some ⟨gr, 0, none⟩)) := by rw [(h1.bk t0).cell]; exact hc1
  obtain ⟨e0, e2, e3, e4, e5⟩ := HOP.out wa (h1.bk tx)
  have i0 : (0 : Int) ≤ (i : Int) := by omega
  have i1 : (i : Int) < 2 := by omega
  have HWA := Lib.hid hwa
  have HOPE := Lib.hid hOP
  have HTX := Lib.hid hTx
  have H1 := Lib.hid h1
  have TA := Lib.hid ta
  have TB := Lib.hid tb
  have TX := Lib.hid tx
  have HLA : Hid (ja < Ts.length ∧ jb < Ts.length ∧ ja ≠ jb) := ⟨hla, hlb, hab⟩
  have HB0 := Lib.hid h1.fr.size
  have hkb0 := hkb
  have HC1 := Lib.hid (dropT_any w0.heap.size gs v l str wa (h1.tbT_at ta) (by omega))
  obtain ⟨B, hB⟩ : ∃ B, (pbT l str) = B := ⟨_, rfl⟩
  have hB2 : (findT r str).isSome = B := by rw [← hB, hR.find]
  obtain ⟨l2, hl2⟩ : ∃ l2, tdropT l str = l2 := ⟨_, rfl⟩
  obtain ⟨r2, hr2⟩ : ∃ r2, rdropT r str = r2 := ⟨_, rfl⟩
  rw [hB, hl2] at HC1
  have HRP : Hid (∀ Z, Sg w0 (Tx.set ja (thTbT w0.heap.size gs v l)) Z → True) := fun _ _ => trivial
  have HRQ : Hid (∀ Z, Rw 74 9 3 w0.heap.size Z gr kv vv (rkT r) (rvT r) → w0.heap.size ≤ Z.heap.size → Calls Tryz.prog 71 #[.pointer (some ⟨gr, 0, none⟩), .string str] Z fun e w' => e = .returned (.bool B) ∧ ∃ kv' vv', RwS 74 9 3 w0.heap.size gr kv vv Z kv' vv' (rkT r2) (rvT r2) w') := fun Z hz hzs => by
    rw [← hr2, ← hB2]
    exact ndrop_any w0.heap.size gr kv vv r str Z hz (by omega) hzs
  have x1 : (B == B) = true := by simp
  rw [hl2, hr2]
  clear h hd hc0 hc1 ha hb hla hlb hl0 hab h0a h0b h1 ta tb t0 tx hOP hTx hwa hR hlr hB hB2 hl2 hr2 HRP
  go_enter Tryz.func24, Tryz.ntmps24
  go_upto_region 1 with fail
  rw [HOPE.out, ← HWA.out]
  clear d0 d1
  go_wp2_with fail
  refine (Calls.mono HC1.out ?_)
  rintro en w1 ho
  obtain ⟨rfl, v', h2⟩ := H1.out.tbT TA.out ho
  obtain ⟨Ty, hTy⟩ : ∃ Ty, Tx.set ja (thTbT w0.heap.size gs v' l2) = Ty := ⟨_, rfl⟩
  rw [hTy] at h2
  have tb2 : Ty[jb]? = some (thRw 74 9 3 w0.heap.size gr kv vv (rkT r) (rvT r)) := by rw [← hTy, List.getElem?_set_ne HLA.out.2.2]; exact TB.out
  have tx2 : Ty[Ts.length]? = some (thBox w0.heap.size kb 31 OP) := by rw [← hTy, List.getElem?_set_ne (by have := HLA.out.1; omega)]; exact TX.out
  have H3 := Lib.hid h2
  have HC2 := Lib.hid (HRQ.out _ (h2.rw_at tb2) h2.fr.size)
  have HTY := Lib.hid hTy
  have TB2 := Lib.hid tb2
  clear e0 e2 e3 e4 e5 d0' d1'
  obtain ⟨_, e2, e3, e4, _⟩ := HOP.out _ (h2.bk tx2)
  clear ho h2 hTy tb2 tx2
  go_wp2_with fail
  refine (Calls.mono HC2.out ?_)
  rintro en z ⟨rfl, kv', vv', ho⟩
  have H4 := Lib.hid (H3.out.rw TB2.out ho)
  clear ho
  go_wp2_with fail
  go_ret
  refine DoM.of (Us := [thBox w0.heap.size kb 31 OP]) H4.out ?_ HLA.out.1 HLA.out.2.1 (v := v') (kv := kv') (vv := vv') ?_ ?_
  · rw [← HTY.out, HTX.out]
    exact ((Chg.refl _ _ _).set1 _).set2 _
  · rw [List.getElem?_set_ne (Ne.symm HLA.out.2.2), ← HTY.out, List.getElem?_set_self (by rw [← HTX.out, List.length_append]; have := HLA.out.1; omega)]
  · rw [List.getElem?_set_self (by rw [← HTY.out, List.length_set, ← HTX.out, List.length_append]; have := HLA.out.2.1; omega)]

set_option maxRecDepth 100000 in
set_option maxHeartbeats 1600000 in
theorem d_name_get {w0 w : World} {Ts : List (Th w0.heap.size)} {gd i gs gr ja jb : Nat} {cs : Array Value} {v kv vv : Value} {l r : List PT} (hi : i < 2) (h : Sg w0 Ts w) (hd : Ts[0]? = some (thBox w0.heap.size gd 52 cs)) (hc0 : cs[8 + i]? = some (.pointer (some ⟨gs, 0, none⟩))) (hc1 : cs[18 + i]? = some (.pointer (some ⟨gr, 0, none⟩))) (ha : Ts[ja]? = some (thTbT w0.heap.size gs v l)) (hb : Ts[jb]? = some (thRw 74 9 3 w0.heap.size gr kv vv (rkT r) (rvT r))) (hab : ja ≠ jb) (h0a : ja ≠ 0) (h0b : jb ≠ 0) (hR : RlT l r) (hL : l.length ≤ 100000) (s : Bool) (n : Int) (x : Int) (str : ByteArray) (stop : Int) :
    Calls Tryz.prog 24 #[.pointer (some ⟨gd, 0, none⟩), .agg #[.int .i64 22, .bool s, .int .i64 n, .int .u64 x, .string str, .int .i64 stop], .int .i64 i] w (DoM w0 Ts gs gr ja jb (l) (r)) := by
  have hla := (List.getElem?_eq_some_iff.1 ha).1
  have hlb := (List.getElem?_eq_some_iff.1 hb).1
  have hl0 := (List.getElem?_eq_some_iff.1 hd).1
  have hlr : r.length ≤ 100000 := by rw [← hR.len]; exact hL
  obtain ⟨kb, hkb⟩ : ∃ kb, w.heap.size = kb := ⟨_, rfl⟩
  obtain ⟨OP, hOP⟩ : ∃ OP : Array Value, #[.int .i64 22, .bool s, .int .i64 n, .int .u64 x, .string str, .int .i64 stop] = OP := ⟨_, rfl⟩
  have h1 := h.box 31 OP
  rw [hkb] at h1
  obtain ⟨Tx, hTx⟩ : ∃ Tx, Ts ++ [thBox w0.heap.size kb 31 OP] = Tx := ⟨_, rfl⟩
  rw [hTx] at h1
  have ta : Tx[ja]? = some (thTbT w0.heap.size gs v l) := by rw [← hTx, List.getElem?_append_left hla]; exact ha
  have tb : Tx[jb]? = some (thRw 74 9 3 w0.heap.size gr kv vv (rkT r) (rvT r)) := by rw [← hTx, List.getElem?_append_left hlb]; exact hb
  have t0 : Tx[0]? = some (thBox w0.heap.size gd 52 cs) := by rw [← hTx, List.getElem?_append_left hl0]; exact hd
  have tx : Tx[Ts.length]? = some (thBox w0.heap.size kb 31 OP) := by rw [← hTx, List.getElem?_append_right (Nat.le_refl _)]; simp
  obtain ⟨wa, hwa⟩ : ∃ wa, wa = w.alloc (.cells OP 31) := ⟨_, rfl⟩
  rw [← hwa] at h1
  have HOP : Hid (∀ Z, Bk Z kb 31 OP → Z.cell? ⟨kb, 0, none⟩ = some (.int .i64 22) ∧ Z.cell? ⟨kb, 2, none⟩ = some (.int .i64 n) ∧ Z.cell? ⟨kb, 3, none⟩ = some (.int .u64 x) ∧ Z.cell? ⟨kb, 4, none⟩ = some (.string str) ∧ Z.cell? ⟨kb, 5, none⟩ = some (.int .i64 stop)) := fun Z hz => by
    rw [← hOP] at hz
    exact ⟨hz.cell 0, hz.cell 2, hz.cell 3, hz.cell 4, hz.cell 5⟩
  have d0 : w.cell? ⟨gd, 8 + i, none⟩ = some (.pointer (some ⟨gs, 0, none⟩)) := by rw [(h.bk hd).cell]; exact hc0
  have d1 : w.cell? ⟨gd, 18 + i, none⟩ = some (.pointer (some ⟨gr, 0, none⟩)) := by rw [(h.bk hd).cell]; exact hc1
  have hgl : gd < w.heap.size := (h.bk hd).lt
  have d0' : wa.cell? ⟨gd, 8 + i, none⟩ = some (.pointer (some ⟨gs, 0, none⟩)) := by rw [(h1.bk t0).cell]; exact hc0
  have d1' : wa.cell? ⟨gd, 18 + i, none⟩ = some (.pointer (some ⟨gr, 0, none⟩)) := by rw [(h1.bk t0).cell]; exact hc1
  obtain ⟨e0, e2, e3, e4, e5⟩ := HOP.out wa (h1.bk tx)
  have i0 : (0 : Int) ≤ (i : Int) := by omega
  have i1 : (i : Int) < 2 := by omega
  have HWA := Lib.hid hwa
  have HOPE := Lib.hid hOP
  have HTX := Lib.hid hTx
  have H1 := Lib.hid h1
  have TA := Lib.hid ta
  have TB := Lib.hid tb
  have TX := Lib.hid tx
  have HLA : Hid (ja < Ts.length ∧ jb < Ts.length ∧ ja ≠ jb) := ⟨hla, hlb, hab⟩
  have HB0 := Lib.hid h1.fr.size
  have hkb0 := hkb
  obtain ⟨X, hX⟩ : ∃ X, gXT (gtT l str) = X := ⟨_, rfl⟩
  obtain ⟨B, hB⟩ : ∃ B, gBT (gtT l str) = B := ⟨_, rfl⟩
  have HC1 : Hid (Calls Tryz.prog 68 #[.pointer (some ⟨gs, 0, none⟩), .string str] wa fun e w' => e = .returned (.tuple #[.int .i64 X, .bool B]) ∧ Fr [] wa w') := by
    refine (getT_any w0.heap.size gs v l str wa (h1.tbT_at ta) (by omega)).mono ?_
    rintro e w' ⟨h2, h3⟩
    exact ⟨by rw [h2, ← hX, ← hB]; cases gtT l str <;> rfl, h3⟩
  have HRQ : Hid (∀ Z, Rw 74 9 3 w0.heap.size Z gr kv vv (rkT r) (rvT r) → w0.heap.size ≤ Z.heap.size → Calls Tryz.prog 69 #[.pointer (some ⟨gr, 0, none⟩), .string str] Z fun e w' => e = .returned (.tuple #[.int .i64 X, .bool B]) ∧ Fr [] Z w') := fun Z hz hzs => by
    refine (nget_any w0.heap.size gr kv vv r str Z hz (by omega)).mono ?_
    rintro e w' ⟨h2, h3⟩
    rw [← hR.get] at h2
    exact ⟨by rw [h2, ← hX, ← hB]; cases gtT l str <;> rfl, h3⟩
  have x1 : (X == X) = true := by simp
  have x2 : (B == B) = true := by simp
  clear hX hB
  clear h hd hc0 hc1 ha hb hla hlb hl0 hab h0a h0b h1 ta tb t0 tx hOP hTx hwa hR hlr
  go_enter Tryz.func24, Tryz.ntmps24
  go_upto_region 1 with fail
  rw [HOPE.out, ← HWA.out]
  clear d0 d1
  go_wp2_with fail
  refine (Calls.mono HC1.out ?_)
  rintro en w1 ⟨rfl, hf1⟩
  have h2 := H1.out.nil hf1
  have HC2 := Lib.hid (HRQ.out _ (h2.rw_at TB.out) h2.fr.size)
  have H3 := Lib.hid h2
  clear e0 e2 e3 e4 e5 d0' d1'
  obtain ⟨_, e2, e3, e4, _⟩ := HOP.out _ (h2.bk TX.out)
  clear hf1 h2
  go_wp2_with fail
  refine (Calls.mono HC2.out ?_)
  rintro en z ⟨rfl, hf⟩
  have H4 := Lib.hid (H3.out.nil hf)
  clear hf
  go_wp2_with fail
  go_ret
  exact DoM.of (Us := [thBox w0.heap.size kb 31 OP]) H4.out (by rw [HTX.out]; exact Chg.refl _ _ _) HLA.out.1 HLA.out.2.1 TA.out TB.out

set_option maxRecDepth 100000 in
set_option maxHeartbeats 1600000 in
theorem d_name_near {w0 w : World} {Ts : List (Th w0.heap.size)} {gd i gs gr ja jb : Nat} {cs : Array Value} {v kv vv : Value} {l r : List PT} (hi : i < 2) (h : Sg w0 Ts w) (hd : Ts[0]? = some (thBox w0.heap.size gd 52 cs)) (hc0 : cs[8 + i]? = some (.pointer (some ⟨gs, 0, none⟩))) (hc1 : cs[18 + i]? = some (.pointer (some ⟨gr, 0, none⟩))) (ha : Ts[ja]? = some (thTbT w0.heap.size gs v l)) (hb : Ts[jb]? = some (thRw 74 9 3 w0.heap.size gr kv vv (rkT r) (rvT r))) (hab : ja ≠ jb) (h0a : ja ≠ 0) (h0b : jb ≠ 0) (hR : RlT l r) (hL : l.length ≤ 100000) (s : Bool) (n : Int) (x : Int) (str : ByteArray) (stop : Int) :
    Calls Tryz.prog 24 #[.pointer (some ⟨gd, 0, none⟩), .agg #[.int .i64 24, .bool s, .int .i64 n, .int .u64 x, .string str, .int .i64 stop], .int .i64 i] w (DoM w0 Ts gs gr ja jb (l) (r)) := by
  have hla := (List.getElem?_eq_some_iff.1 ha).1
  have hlb := (List.getElem?_eq_some_iff.1 hb).1
  have hl0 := (List.getElem?_eq_some_iff.1 hd).1
  have hlr : r.length ≤ 100000 := by rw [← hR.len]; exact hL
  obtain ⟨kb, hkb⟩ : ∃ kb, w.heap.size = kb := ⟨_, rfl⟩
  obtain ⟨OP, hOP⟩ : ∃ OP : Array Value, #[.int .i64 24, .bool s, .int .i64 n, .int .u64 x, .string str, .int .i64 stop] = OP := ⟨_, rfl⟩
  have h1 := h.box 31 OP
  rw [hkb] at h1
  obtain ⟨Tx, hTx⟩ : ∃ Tx, Ts ++ [thBox w0.heap.size kb 31 OP] = Tx := ⟨_, rfl⟩
  rw [hTx] at h1
  have ta : Tx[ja]? = some (thTbT w0.heap.size gs v l) := by rw [← hTx, List.getElem?_append_left hla]; exact ha
  have tb : Tx[jb]? = some (thRw 74 9 3 w0.heap.size gr kv vv (rkT r) (rvT r)) := by rw [← hTx, List.getElem?_append_left hlb]; exact hb
  have t0 : Tx[0]? = some (thBox w0.heap.size gd 52 cs) := by rw [← hTx, List.getElem?_append_left hl0]; exact hd
  have tx : Tx[Ts.length]? = some (thBox w0.heap.size kb 31 OP) := by rw [← hTx, List.getElem?_append_right (Nat.le_refl _)]; simp
  obtain ⟨wa, hwa⟩ : ∃ wa, wa = w.alloc (.cells OP 31) := ⟨_, rfl⟩
  rw [← hwa] at h1
  have HOP : Hid (∀ Z, Bk Z kb 31 OP → Z.cell? ⟨kb, 0, none⟩ = some (.int .i64 24) ∧ Z.cell? ⟨kb, 2, none⟩ = some (.int .i64 n) ∧ Z.cell? ⟨kb, 3, none⟩ = some (.int .u64 x) ∧ Z.cell? ⟨kb, 4, none⟩ = some (.string str) ∧ Z.cell? ⟨kb, 5, none⟩ = some (.int .i64 stop)) := fun Z hz => by
    rw [← hOP] at hz
    exact ⟨hz.cell 0, hz.cell 2, hz.cell 3, hz.cell 4, hz.cell 5⟩
  have d0 : w.cell? ⟨gd, 8 + i, none⟩ = some (.pointer (some ⟨gs, 0, none⟩)) := by rw [(h.bk hd).cell]; exact hc0
  have d1 : w.cell? ⟨gd, 18 + i, none⟩ = some (.pointer (some ⟨gr, 0, none⟩)) := by rw [(h.bk hd).cell]; exact hc1
  have hgl : gd < w.heap.size := (h.bk hd).lt
  have d0' : wa.cell? ⟨gd, 8 + i, none⟩ = some (.pointer (some ⟨gs, 0, none⟩)) := by rw [(h1.bk t0).cell]; exact hc0
  have d1' : wa.cell? ⟨gd, 18 + i, none⟩ = some (.pointer (some ⟨gr, 0, none⟩)) := by rw [(h1.bk t0).cell]; exact hc1
  obtain ⟨e0, e2, e3, e4, e5⟩ := HOP.out wa (h1.bk tx)
  have i0 : (0 : Int) ≤ (i : Int) := by omega
  have i1 : (i : Int) < 2 := by omega
  have HWA := Lib.hid hwa
  have HOPE := Lib.hid hOP
  have HTX := Lib.hid hTx
  have H1 := Lib.hid h1
  have TA := Lib.hid ta
  have TB := Lib.hid tb
  have TX := Lib.hid tx
  have HLA : Hid (ja < Ts.length ∧ jb < Ts.length ∧ ja ≠ jb) := ⟨hla, hlb, hab⟩
  have HB0 := Lib.hid h1.fr.size
  have hkb0 := hkb
  obtain ⟨Y, hY⟩ : ∃ Y, nXT (nrT l str) = Y := ⟨_, rfl⟩
  obtain ⟨X, hX⟩ : ∃ X, nYT (nrT l str) = X := ⟨_, rfl⟩
  obtain ⟨B, hB⟩ : ∃ B, nBT (nrT l str) = B := ⟨_, rfl⟩
  have HC1 : Hid (Calls Tryz.prog 72 #[.pointer (some ⟨gs, 0, none⟩), .string str] wa fun e w' => e = .returned (.tuple #[.string Y, .int .i64 X, .bool B]) ∧ Fr [] wa w') := by
    refine (nearT_any w0.heap.size gs v l str wa (h1.tbT_at ta) (by omega)).mono ?_
    intro e w' ho
    rw [← hX, ← hB, ← hY]
    exact nearT_of ho
  have HRQ : Hid (∀ Z, Rw 74 9 3 w0.heap.size Z gr kv vv (rkT r) (rvT r) → w0.heap.size ≤ Z.heap.size → Calls Tryz.prog 73 #[.pointer (some ⟨gr, 0, none⟩), .string str] Z fun e w' => e = .returned (.tuple #[.string Y, .int .i64 X, .bool B]) ∧ Fr [] Z w') := fun Z hz hzs => by
    refine (nnear_any w0.heap.size gr kv vv r str Z hz (by omega)).mono ?_
    intro e w' ho
    rw [← hR.near] at ho
    rw [← hX, ← hB, ← hY]
    exact nearT_of ho
  have x0 : (Y.toList == Y.toList) = true := by simp
  have x1 : (X == X) = true := by simp
  have x2 : (B == B) = true := by simp
  clear hX hB hY
  clear h hd hc0 hc1 ha hb hla hlb hl0 hab h0a h0b h1 ta tb t0 tx hOP hTx hwa hR hlr
  go_enter Tryz.func24, Tryz.ntmps24
  go_upto_region 1 with fail
  rw [HOPE.out, ← HWA.out]
  clear d0 d1
  go_wp2_with fail
  refine (Calls.mono HC1.out ?_)
  rintro en w1 ⟨rfl, hf1⟩
  have h2 := H1.out.nil hf1
  have HC2 := Lib.hid (HRQ.out _ (h2.rw_at TB.out) h2.fr.size)
  have H3 := Lib.hid h2
  clear e0 e2 e3 e4 e5 d0' d1'
  obtain ⟨_, e2, e3, e4, _⟩ := HOP.out _ (h2.bk TX.out)
  clear hf1 h2
  go_wp2_with fail
  refine (Calls.mono HC2.out ?_)
  rintro en z ⟨rfl, hf⟩
  have H4 := Lib.hid (H3.out.nil hf)
  clear hf
  go_wp2_with fail
  go_ret
  exact DoM.of (Us := [thBox w0.heap.size kb 31 OP]) H4.out (by rw [HTX.out]; exact Chg.refl _ _ _) HLA.out.1 HLA.out.2.1 TA.out TB.out

set_option maxRecDepth 100000 in
set_option maxHeartbeats 1600000 in
theorem d_name_len {w0 w : World} {Ts : List (Th w0.heap.size)} {gd i gs gr ja jb : Nat} {cs : Array Value} {v kv vv : Value} {l r : List PT} (hi : i < 2) (h : Sg w0 Ts w) (hd : Ts[0]? = some (thBox w0.heap.size gd 52 cs)) (hc0 : cs[8 + i]? = some (.pointer (some ⟨gs, 0, none⟩))) (hc1 : cs[18 + i]? = some (.pointer (some ⟨gr, 0, none⟩))) (ha : Ts[ja]? = some (thTbT w0.heap.size gs v l)) (hb : Ts[jb]? = some (thRw 74 9 3 w0.heap.size gr kv vv (rkT r) (rvT r))) (hab : ja ≠ jb) (h0a : ja ≠ 0) (h0b : jb ≠ 0) (hR : RlT l r) (hL : l.length ≤ 100000) (s : Bool) (n : Int) (x : Int) (str : ByteArray) (stop : Int) :
    Calls Tryz.prog 24 #[.pointer (some ⟨gd, 0, none⟩), .agg #[.int .i64 25, .bool s, .int .i64 n, .int .u64 x, .string str, .int .i64 stop], .int .i64 i] w (DoM w0 Ts gs gr ja jb (l) (r)) := by
  have hla := (List.getElem?_eq_some_iff.1 ha).1
  have hlb := (List.getElem?_eq_some_iff.1 hb).1
  have hl0 := (List.getElem?_eq_some_iff.1 hd).1
  have hlr : r.length ≤ 100000 := by rw [← hR.len]; exact hL
  obtain ⟨kb, hkb⟩ : ∃ kb, w.heap.size = kb := ⟨_, rfl⟩
  obtain ⟨OP, hOP⟩ : ∃ OP : Array Value, #[.int .i64 25, .bool s, .int .i64 n, .int .u64 x, .string str, .int .i64 stop] = OP := ⟨_, rfl⟩
  have h1 := h.box 31 OP
  rw [hkb] at h1
  obtain ⟨Tx, hTx⟩ : ∃ Tx, Ts ++ [thBox w0.heap.size kb 31 OP] = Tx := ⟨_, rfl⟩
  rw [hTx] at h1
  have ta : Tx[ja]? = some (thTbT w0.heap.size gs v l) := by rw [← hTx, List.getElem?_append_left hla]; exact ha
  have tb : Tx[jb]? = some (thRw 74 9 3 w0.heap.size gr kv vv (rkT r) (rvT r)) := by rw [← hTx, List.getElem?_append_left hlb]; exact hb
  have t0 : Tx[0]? = some (thBox w0.heap.size gd 52 cs) := by rw [← hTx, List.getElem?_append_left hl0]; exact hd
  have tx : Tx[Ts.length]? = some (thBox w0.heap.size kb 31 OP) := by rw [← hTx, List.getElem?_append_right (Nat.le_refl _)]; simp
  obtain ⟨wa, hwa⟩ : ∃ wa, wa = w.alloc (.cells OP 31) := ⟨_, rfl⟩
  rw [← hwa] at h1
  have HOP : Hid (∀ Z, Bk Z kb 31 OP → Z.cell? ⟨kb, 0, none⟩ = some (.int .i64 25) ∧ Z.cell? ⟨kb, 2, none⟩ = some (.int .i64 n) ∧ Z.cell? ⟨kb, 3, none⟩ = some (.int .u64 x) ∧ Z.cell? ⟨kb, 4, none⟩ = some (.string str) ∧ Z.cell? ⟨kb, 5, none⟩ = some (.int .i64 stop)) := fun Z hz => by
    rw [← hOP] at hz
    exact ⟨hz.cell 0, hz.cell 2, hz.cell 3, hz.cell 4, hz.cell 5⟩
  have d0 : w.cell? ⟨gd, 8 + i, none⟩ = some (.pointer (some ⟨gs, 0, none⟩)) := by rw [(h.bk hd).cell]; exact hc0
  have d1 : w.cell? ⟨gd, 18 + i, none⟩ = some (.pointer (some ⟨gr, 0, none⟩)) := by rw [(h.bk hd).cell]; exact hc1
  have hgl : gd < w.heap.size := (h.bk hd).lt
  have d0' : wa.cell? ⟨gd, 8 + i, none⟩ = some (.pointer (some ⟨gs, 0, none⟩)) := by rw [(h1.bk t0).cell]; exact hc0
  have d1' : wa.cell? ⟨gd, 18 + i, none⟩ = some (.pointer (some ⟨gr, 0, none⟩)) := by rw [(h1.bk t0).cell]; exact hc1
  obtain ⟨e0, e2, e3, e4, e5⟩ := HOP.out wa (h1.bk tx)
  have i0 : (0 : Int) ≤ (i : Int) := by omega
  have i1 : (i : Int) < 2 := by omega
  have HWA := Lib.hid hwa
  have HOPE := Lib.hid hOP
  have HTX := Lib.hid hTx
  have H1 := Lib.hid h1
  have TA := Lib.hid ta
  have TB := Lib.hid tb
  have TX := Lib.hid tx
  have HLA : Hid (ja < Ts.length ∧ jb < Ts.length ∧ ja ≠ jb) := ⟨hla, hlb, hab⟩
  have HB0 := Lib.hid h1.fr.size
  have hkb0 := hkb
  have HC1 := Lib.hid (tbT_len w0.heap.size gs v l wa (h1.tbT_at ta))
  obtain ⟨m, hm⟩ : ∃ m, l.length = m := ⟨_, rfl⟩
  have hm2 : r.length = m := by rw [← hR.len]; exact hm
  rw [hm] at HC1
  have hnb := h1.rw_at tb
  obtain ⟨A, cp, hv2, _, _⟩ := hnb.K.look
  have cr : wa.cell? ⟨gr, 0, none⟩ = some (.slice A m cp) := by
    have := hnb.B.cell 0
    rw [hv2, rkT_len, hm2] at this
    exact this
  have x1 : (((m : Nat) : Int) == ((m : Nat) : Int)) = true := by simp
  clear h hd hc0 hc1 ha hb hla hlb hl0 hab h0a h0b h1 ta tb t0 tx hOP hTx hwa hR hlr hm hm2 hnb hv2
  go_enter Tryz.func24, Tryz.ntmps24
  go_upto_region 1 with fail
  rw [HOPE.out, ← HWA.out]
  clear d0 d1
  go_wp2_with fail
  refine (Calls.mono HC1.out ?_)
  rintro en w1 ⟨rfl, rfl⟩
  go_wp2_with fail
  go_ret
  exact DoM.of (Us := [thBox w0.heap.size kb 31 OP]) H1.out (by rw [HTX.out]; exact Chg.refl _ _ _) HLA.out.1 HLA.out.2.1 TA.out TB.out

end Go.Proofs.YtdjaalkbpdmdgaaGreat
