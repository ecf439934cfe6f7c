/-
  Bag: the desk's calls of a table (desk's wordOp, but All).
-/
import Derived.Test.YtdjaalkbpdmdgaaGreatBgW5
namespace Go.Proofs.YtdjaalkbpdmdgaaGreat
open Go.RowKit
set_option linter.unusedVariables false

section
variable {w0 w w' : World} {Ts : List (Th w0.heap.size)} {e : Ending} {res v kv vv kv' vv' : Value} {g i : Nat}
theorem Sg.tbN {l l' : List PN} (h : Sg w0 Ts w) (hi : Ts[i]? = some (thTbN w0.heap.size g v l)) (ho : TbNTo w0.heap.size g v l' res w e w') : e = .returned res ∧ ∃ v', Sg w0 (Ts.set i (thTbN w0.heap.size g v' l')) w' := by
  obtain ⟨h1, v', h2, h3, h4⟩ := ho
  exact ⟨h1, v', h.set hi h3 h2 h4⟩
theorem Sg.tbN_at {l : List PN} (h : Sg w0 Ts w) (hi : Ts[i]? = some (thTbN w0.heap.size g v l)) : TbN w0.heap.size w g v l := h.ok i _ hi
theorem Sg.rw {t kt vt : TypeId} {ks vs ks' vs' : List Value} (h : Sg w0 Ts w) (hi : Ts[i]? = some (thRw t kt vt w0.heap.size g kv vv ks vs)) (ho : RwS t kt vt w0.heap.size g kv vv w kv' vv' ks' vs' w') : Sg w0 (Ts.set i (thRw t kt vt w0.heap.size g kv' vv' ks' vs')) w' := h.set hi ho.2.1 ho.1 ho.2.2
theorem Sg.rw_at {t kt vt : TypeId} {ks vs : List Value} (h : Sg w0 Ts w) (hi : Ts[i]? = some (thRw t kt vt w0.heap.size g kv vv ks vs)) : Rw t kt vt w0.heap.size w g kv vv ks vs := h.ok i _ hi
end
def gXN (o : Option Int) : Int := match o with | some p => p | none => 0
def gBN (o : Option Int) : Bool := match o with | some _ => true | none => false
def nXN (o : Option PN) : Int := match o with | some p => p.1 | none => 0
def nYN (o : Option PN) : Int := match o with | some p => p.2 | none => 0
def nBN (o : Option PN) : Bool := match o with | some _ => true | none => false
theorem nearN_of {o : Option PN} {w w' : World} {e : Ending} (h : NearN o w e w') : e = .returned (.tuple #[.int .i64 (nXN o), .int .u64 (nYN o), .bool (nBN o)]) ∧ Fr [] w w' := by
  obtain ⟨h1, h2⟩ := h
  exact ⟨by rw [h1]; cases o <;> rfl, h2⟩
/-- What a call of the desk leaves: a table and the document's, both turned alike. -/
def DoW (w0 : World) (Ts : List (Th w0.heap.size)) (gs gr ja jb : Nat) (l r : List PN) (e : Ending) (w' : World) : Prop :=
  e = .returned (.bool true) ∧ ∃ Ts' v kv vv, Sg w0 Ts' w' ∧ Chg Ts Ts' ja jb ∧ Ts'[ja]? = some (thTbN w0.heap.size gs v l) ∧ Ts'[jb]? = some (thRw 71 3 29 w0.heap.size gr kv vv (rkN r) (rvN r))
theorem DoW.of {w0 w' : World} {Ts : List (Th w0.heap.size)} {gs gr ja jb : Nat} {l r : List PN} {Us Tx : List (Th w0.heap.size)} {v kv vv : Value} (hx : Sg w0 Tx w') (hc : Chg (Ts ++ Us) Tx ja jb) (ha : ja < Ts.length) (hb : jb < Ts.length)
    (h1 : Tx[ja]? = some (thTbN w0.heap.size gs v l)) (h2 : Tx[jb]? = some (thRw 71 3 29 w0.heap.size gr kv vv (rkN r) (rvN r))) : DoW w0 Ts gs gr ja jb l r (.returned (.bool true)) w' := by
  refine ⟨rfl, Tx.take Ts.length, v, kv, vv, hx.take _, hc.cut ha hb, ?_, ?_⟩
  · rw [List.getElem?_take, if_pos ha]; exact h1
  · rw [List.getElem?_take, if_pos hb]; exact h2

set_option maxRecDepth 100000 in
set_option maxHeartbeats 1600000 in
theorem d_word_set {w0 w : World} {Ts : List (Th w0.heap.size)} {gd i gs gr ja jb : Nat} {cs : Array Value} {v kv vv : Value} {l r : List PN} (hi : i < 2) (h : Sg w0 Ts w) (hd : Ts[0]? = some (thBox w0.heap.size gd 52 cs)) (hc0 : cs[6 + i]? = some (.pointer (some ⟨gs, 0, none⟩))) (hc1 : cs[16 + i]? = some (.pointer (some ⟨gr, 0, none⟩))) (ha : Ts[ja]? = some (thTbN w0.heap.size gs v l)) (hb : Ts[jb]? = some (thRw 71 3 29 w0.heap.size gr kv vv (rkN r) (rvN r))) (hab : ja ≠ jb) (h0a : ja ≠ 0) (h0b : jb ≠ 0) (hR : Rl l r) (hL : l.length ≤ 100000) (s : Bool) (n : Int) (x : Int) (str : ByteArray) (stop : Int) :
    Calls Tryz.prog 23 #[.pointer (some ⟨gd, 0, none⟩), .agg #[.int .i64 15, .bool s, .int .i64 n, .int .u64 x, .string str, .int .i64 stop], .int .i64 i] w (DoW w0 Ts gs gr ja jb (tsetN l n x) (rsetR r n x)) := by
  have hla := (List.getElem?_eq_some_iff.1 ha).1
  have hlb := (List.getElem?_eq_some_iff.1 hb).1
  have hl0 := (List.getElem?_eq_some_iff.1 hd).1
  have hlr : r.length ≤ 100000 := by rw [← hR.len]; exact hL
  obtain ⟨kb, hkb⟩ : ∃ kb, w.heap.size = kb := ⟨_, rfl⟩
  obtain ⟨OP, hOP⟩ : ∃ OP : Array Value, #[.int .i64 15, .bool s, .int .i64 n, .int .u64 x, .string str, .int .i64 stop] = OP := ⟨_, rfl⟩
  have h1 := h.box 31 OP
  rw [hkb] at h1
  obtain ⟨Tx, hTx⟩ : ∃ Tx, Ts ++ [thBox w0.heap.size kb 31 OP] = Tx := ⟨_, rfl⟩
  rw [hTx] at h1
  have ta : Tx[ja]? = some (thTbN w0.heap.size gs v l) := by rw [← hTx, List.getElem?_append_left hla]; exact ha
  have tb : Tx[jb]? = some (thRw 71 3 29 w0.heap.size gr kv vv (rkN r) (rvN r)) := by rw [← hTx, List.getElem?_append_left hlb]; exact hb
  have t0 : Tx[0]? = some (thBox w0.heap.size gd 52 cs) := by rw [← hTx, List.getElem?_append_left hl0]; exact hd
  have tx : Tx[Ts.length]? = some (thBox w0.heap.size kb 31 OP) := by rw [← hTx, List.getElem?_append_right (Nat.le_refl _)]; simp
  obtain ⟨wa, hwa⟩ : ∃ wa, wa = w.alloc (.cells OP 31) := ⟨_, rfl⟩
  rw [← hwa] at h1
  have HOP : Hid (∀ Z, Bk Z kb 31 OP → Z.cell? ⟨kb, 0, none⟩ = some (.int .i64 15) ∧ Z.cell? ⟨kb, 2, none⟩ = some (.int .i64 n) ∧ Z.cell? ⟨kb, 3, none⟩ = some (.int .u64 x) ∧ Z.cell? ⟨kb, 4, none⟩ = some (.string str) ∧ Z.cell? ⟨kb, 5, none⟩ = some (.int .i64 stop)) := fun Z hz => by
    rw [← hOP] at hz
    exact ⟨hz.cell 0, hz.cell 2, hz.cell 3, hz.cell 4, hz.cell 5⟩
  have d0 : w.cell? ⟨gd, 6 + i, none⟩ = some (.pointer (some ⟨gs, 0, none⟩)) := by rw [(h.bk hd).cell]; exact hc0
  have d1 : w.cell? ⟨gd, 16 + i, none⟩ = some (.pointer (some ⟨gr, 0, none⟩)) := by rw [(h.bk hd).cell]; exact hc1
  have hgl : gd < w.heap.size := (h.bk hd).lt
  have d0' : wa.cell? ⟨gd, 6 + i, none⟩ = some (.pointer (some ⟨gs, 0, none⟩)) := by rw [(h1.bk t0).cell]; exact hc0
  have d1' : wa.cell? ⟨gd, 16 + i, none⟩ = some (.pointer (some ⟨gr, 0, none⟩)) := by rw [(h1.bk t0).cell]; exact hc1
  obtain ⟨e0, e2, e3, e4, e5⟩ := HOP.out wa (h1.bk tx)
  have i0 : (0 : Int) ≤ (i : Int) := by omega
  have i1 : (i : Int) < 2 := by omega
  have HWA := Lib.hid hwa
  have HOPE := Lib.hid hOP
  have HTX := Lib.hid hTx
  have H1 := Lib.hid h1
  have TA := Lib.hid ta
  have TB := Lib.hid tb
  have TX := Lib.hid tx
  have HLA : Hid (ja < Ts.length ∧ jb < Ts.length ∧ ja ≠ jb) := ⟨hla, hlb, hab⟩
  have HB0 := Lib.hid h1.fr.size
  have hkb0 := hkb
  have HC1 := Lib.hid (setN_any w0.heap.size gs v l n x wa (h1.tbN_at ta) (by omega) h1.fr.size)
  obtain ⟨B, hB⟩ : ∃ B, (!pbN l n) = B := ⟨_, rfl⟩
  have hB2 : (findA r n).isNone = B := by rw [← hB, hR.find]; cases findA r n <;> rfl
  obtain ⟨l2, hl2⟩ : ∃ l2, tsetN l n x = l2 := ⟨_, rfl⟩
  obtain ⟨r2, hr2⟩ : ∃ r2, rsetR r n x = r2 := ⟨_, rfl⟩
  rw [hB, hl2] at HC1
  have HRP : Hid (∀ Z, Sg w0 (Tx.set ja (thTbN w0.heap.size gs v l)) Z → True) := fun _ _ => trivial
  have HRQ : Hid (∀ Z, Rw 71 3 29 w0.heap.size Z gr kv vv (rkN r) (rvN r) → w0.heap.size ≤ Z.heap.size → Calls Tryz.prog 57 #[.pointer (some ⟨gr, 0, none⟩), .int .i64 n, .int .u64 x] Z fun e w' => e = .returned (.bool B) ∧ ∃ kv' vv', RwS 71 3 29 w0.heap.size gr kv vv Z kv' vv' (rkN r2) (rvN r2) w') := fun Z hz hzs => by
    rw [← hr2, ← hB2]
    exact wset_any w0.heap.size gr kv vv r n x Z hz (by omega) hzs
  have x1 : (B == B) = true := by simp
  rw [hl2, hr2]
  clear h hd hc0 hc1 ha hb hla hlb hl0 hab h0a h0b h1 ta tb t0 tx hOP hTx hwa hR hlr hB hB2 hl2 hr2 HRP
  go_enter Tryz.func23, Tryz.ntmps23
  go_upto_region 1 with fail
  rw [HOPE.out, ← HWA.out]
  clear d0 d1
  go_wp2_with fail
  refine (Calls.mono HC1.out ?_)
  rintro en w1 ho
  obtain ⟨rfl, v', h2⟩ := H1.out.tbN TA.out ho
  obtain ⟨Ty, hTy⟩ : ∃ Ty, Tx.set ja (thTbN w0.heap.size gs v' l2) = Ty := ⟨_, rfl⟩
  rw [hTy] at h2
  have tb2 : Ty[jb]? = some (thRw 71 3 29 w0.heap.size gr kv vv (rkN r) (rvN r)) := by rw [← hTy, List.getElem?_set_ne HLA.out.2.2]; exact TB.out
  have tx2 : Ty[Ts.length]? = some (thBox w0.heap.size kb 31 OP) := by rw [← hTy, List.getElem?_set_ne (by have := HLA.out.1; omega)]; exact TX.out
  have H3 := Lib.hid h2
  have HC2 := Lib.hid (HRQ.out _ (h2.rw_at tb2) h2.fr.size)
  have HTY := Lib.hid hTy
  have TB2 := Lib.hid tb2
  clear e0 e2 e3 e4 e5 d0' d1'
  obtain ⟨_, e2, e3, e4, _⟩ := HOP.out _ (h2.bk tx2)
  clear ho h2 hTy tb2 tx2
  go_wp2_with fail
  refine (Calls.mono HC2.out ?_)
  rintro en z ⟨rfl, kv', vv', ho⟩
  have H4 := Lib.hid (H3.out.rw TB2.out ho)
  clear ho
  go_wp2_with fail
  go_ret
  refine DoW.of (Us := [thBox w0.heap.size kb 31 OP]) H4.out ?_ HLA.out.1 HLA.out.2.1 (v := v') (kv := kv') (vv := vv') ?_ ?_
  · rw [← HTY.out, HTX.out]
    exact ((Chg.refl _ _ _).set1 _).set2 _
  · rw [List.getElem?_set_ne (Ne.symm HLA.out.2.2), ← HTY.out, List.getElem?_set_self (by rw [← HTX.out, List.length_append]; have := HLA.out.1; omega)]
  · rw [List.getElem?_set_self (by rw [← HTY.out, List.length_set, ← HTX.out, List.length_append]; have := HLA.out.2.1; omega)]

set_option maxRecDepth 100000 in
set_option maxHeartbeats 1600000 in
theorem d_word_drop {w0 w : World} {Ts : List (Th w0.heap.size)} {gd i gs gr ja jb : Nat} {cs : Array Value} {v kv vv : Value} {l r : List PN} (hi : i < 2) (h : Sg w0 Ts w) (hd : Ts[0]? = some (thBox w0.heap.size gd 52 cs)) (hc0 : cs[6 + i]? = some (.pointer (some ⟨gs, 0, none⟩))) (hc1 : cs[16 + i]? = some (.pointer (some ⟨gr, 0, none⟩))) (ha : Ts[ja]? = some (thTbN w0.heap.size gs v l)) (hb : Ts[jb]? = some (thRw 71 3 29 w0.heap.size gr kv vv (rkN r) (rvN r))) (hab : ja ≠ jb) (h0a : ja ≠ 0) (h0b : jb ≠ 0) (hR : Rl l r) (hL : l.length ≤ 100000) (s : Bool) (n : Int) (x : Int) (str : ByteArray) (stop : Int) :
    Calls Tryz.prog 23 #[.pointer (some ⟨gd, 0, none⟩), .agg #[.int .i64 17, .bool s, .int .i64 n, .int .u64 x, .string str, .int .i64 stop], .int .i64 i] w (DoW w0 Ts gs gr ja jb (tdropN l n) (rdropR r n)) := by
  have hla := (List.getElem?_eq_some_iff.1 ha).1
  have hlb := (List.getElem?_eq_some_iff.1 hb).1
  have hl0 := (List.getElem?_eq_some_iff.1 hd).1
  have hlr : r.length ≤ 100000 := by rw [← hR.len]; exact hL
  obtain ⟨kb, hkb⟩ : ∃ kb, w.heap.size = kb := ⟨_, rfl⟩
  obtain ⟨OP, hOP⟩ : ∃ OP : Array Value, #[.int .i64 17, .bool s, .int .i64 n, .int .u64 x, .string str, .int .i64 stop] = OP := ⟨_, rfl⟩
  have h1 := h.box 31 OP
  rw [hkb] at h1
  obtain ⟨Tx, hTx⟩ : ∃ Tx, Ts ++ [thBox w0.heap.size kb 31 OP] = Tx := ⟨_, rfl⟩
  rw [hTx] at h1
  have ta : Tx[ja]? = some (thTbN w0.heap.size gs v l) := by rw [← hTx, List.getElem?_append_left hla]; exact ha
  have tb : Tx[jb]? = some (thRw 71 3 29 w0.heap.size gr kv vv (rkN r) (rvN r)) := by rw [← hTx, List.getElem?_append_left hlb]; exact hb
  have t0 : Tx[0]? = some (thBox w0.heap.size gd 52 cs) := by rw [← hTx, List.getElem?_append_left hl0]; exact hd
  have tx : Tx[Ts.length]? = some (thBox w0.heap.size kb 31 OP) := by rw [← hTx, List.getElem?_append_right (Nat.le_refl _)]; simp
  obtain ⟨wa, hwa⟩ : ∃ wa, wa = w.alloc (.cells OP 31) := ⟨_, rfl⟩
  rw [← hwa] at h1
  have HOP : Hid (∀ Z, Bk Z kb 31 OP → Z.cell? ⟨kb, 0, none⟩ = some (.int .i64 17) ∧ Z.cell? ⟨kb, 2, none⟩ = some (.int .i64 n) ∧ Z.cell? ⟨kb, 3, none⟩ = some (.int .u64 x) ∧ Z.cell? ⟨kb, 4, none⟩ = some (.string str) ∧ Z.cell? ⟨kb, 5, none⟩ = some (.int .i64 stop)) := fun Z hz => by
    rw [← hOP] at hz
    exact ⟨hz.cell 0, hz.cell 2, hz.cell 3, hz.cell 4, hz.cell 5⟩
  have d0 : w.cell? ⟨gd, 6 + i, none⟩ = some (.pointer (some ⟨gs, 0, none⟩)) := by rw [(h.bk hd).cell]; exact hc0
  have d1 : w.cell? ⟨gd, 16 + i, none⟩ = some (.pointer (some ⟨gr, 0, none⟩)) := by rw [(h.bk hd).cell]; exact hc1
  have hgl : gd < w.heap.size := (h.bk hd).lt
  have d0' : wa.cell? ⟨gd, 6 + i, none⟩ = some (.pointer (some ⟨gs, 0, none⟩)) := by rw [(h1.bk t0).cell]; exact hc0
  have d1' : wa.cell? ⟨gd, 16 + i, none⟩ = some (.pointer (some ⟨gr, 0, none⟩)) := by rw [(h1.bk t0).cell]; exact hc1
  obtain ⟨e0, e2, e3, e4, e5⟩ := HOP.out wa (h1.bk tx)
  have i0 : (0 : Int) ≤ (i : Int) := by omega
  have i1 : (i : Int) < 2 := by omega
  have HWA := Lib.hid hwa
  have HOPE := Lib.hid hOP
  have HTX := Lib.hid hTx
  have H1 := Lib.hid h1
  have TA := Lib.hid ta
  have TB := Lib.hid tb
  have TX := Lib.hid tx
  have HLA : Hid (ja < Ts.length ∧ jb < Ts.length ∧ ja ≠ jb) := ⟨hla, hlb, hab⟩
  have HB0 := Lib.hid h1.fr.size
  have hkb0 := hkb
  have HC1 := Lib.hid (dropN_any w0.heap.size gs v l n wa (h1.tbN_at ta) (by omega))
  obtain ⟨B, hB⟩ : ∃ B, (pbN l n) = B := ⟨_, rfl⟩
  have hB2 : (findA r n).isSome = B := by rw [← hB, hR.find]
  obtain ⟨l2, hl2⟩ : ∃ l2, tdropN l n = l2 := ⟨_, rfl⟩
  obtain ⟨r2, hr2⟩ : ∃ r2, rdropR r n = r2 := ⟨_, rfl⟩
  rw [hB, hl2] at HC1
  have HRP : Hid (∀ Z, Sg w0 (Tx.set ja (thTbN w0.heap.size gs v l)) Z → True) := fun _ _ => trivial
  have HRQ : Hid (∀ Z, Rw 71 3 29 w0.heap.size Z gr kv vv (rkN r) (rvN r) → w0.heap.size ≤ Z.heap.size → Calls Tryz.prog 61 #[.pointer (some ⟨gr, 0, none⟩), .int .i64 n] Z fun e w' => e = .returned (.bool B) ∧ ∃ kv' vv', RwS 71 3 29 w0.heap.size gr kv vv Z kv' vv' (rkN r2) (rvN r2) w') := fun Z hz hzs => by
    rw [← hr2, ← hB2]
    exact wdrop_any w0.heap.size gr kv vv r n Z hz (by omega) hzs
  have x1 : (B == B) = true := by simp
  rw [hl2, hr2]
  clear h hd hc0 hc1 ha hb hla hlb hl0 hab h0a h0b h1 ta tb t0 tx hOP hTx hwa hR hlr hB hB2 hl2 hr2 HRP
  go_enter Tryz.func23, Tryz.ntmps23
  go_upto_region 1 with fail
  rw [HOPE.out, ← HWA.out]
  clear d0 d1
  go_wp2_with fail
  refine (Calls.mono HC1.out ?_)
  rintro en w1 ho
  obtain ⟨rfl, v', h2⟩ := H1.out.tbN TA.out ho
  obtain ⟨Ty, hTy⟩ : ∃ Ty, Tx.set ja (thTbN w0.heap.size gs v' l2) = Ty := ⟨_, rfl⟩
  rw [hTy] at h2
  have tb2 : Ty[jb]? = some (thRw 71 3 29 w0.heap.size gr kv vv (rkN r) (rvN r)) := by rw [← hTy, List.getElem?_set_ne HLA.out.2.2]; exact TB.out
  have tx2 : Ty[Ts.length]? = some (thBox w0.heap.size kb 31 OP) := by rw [← hTy, List.getElem?_set_ne (by have := HLA.out.1; omega)]; exact TX.out
  have H3 := Lib.hid h2
  have HC2 := Lib.hid (HRQ.out _ (h2.rw_at tb2) h2.fr.size)
  have HTY := Lib.hid hTy
  have TB2 := Lib.hid tb2
  clear e0 e2 e3 e4 e5 d0' d1'
  obtain ⟨_, e2, e3, e4, _⟩ := HOP.out _ (h2.bk tx2)
  clear ho h2 hTy tb2 tx2
  go_wp2_with fail
  refine (Calls.mono HC2.out ?_)
  rintro en z ⟨rfl, kv', vv', ho⟩
  have H4 := Lib.hid (H3.out.rw TB2.out ho)
  clear ho
  go_wp2_with fail
  go_ret
  refine DoW.of (Us := [thBox w0.heap.size kb 31 OP]) H4.out ?_ HLA.out.1 HLA.out.2.1 (v := v') (kv := kv') (vv := vv') ?_ ?_
  · rw [← HTY.out, HTX.out]
    exact ((Chg.refl _ _ _).set1 _).set2 _
  · rw [List.getElem?_set_ne (Ne.symm HLA.out.2.2), ← HTY.out, List.getElem?_set_self (by rw [← HTX.out, List.length_append]; have := HLA.out.1; omega)]
  · rw [List.getElem?_set_self (by rw [← HTY.out, List.length_set, ← HTX.out, List.length_append]; have := HLA.out.2.1; omega)]

set_option maxRecDepth 100000 in
set_option maxHeartbeats 1600000 in
theorem d_word_get {w0 w : World} {Ts : List (Th w0.heap.size)} {gd i gs gr ja jb : Nat} {cs : Array Value} {v kv vv : Value} {l r : List PN} (hi : i < 2) (h : Sg w0 Ts w) (hd : Ts[0]? = some (thBox w0.heap.size gd 52 cs)) (hc0 : cs[6 + i]? = some (.pointer (some ⟨gs, 0, none⟩))) (hc1 : cs[16 + i]? = some (.pointer (some ⟨gr, 0, none⟩))) (ha : Ts[ja]? = some (thTbN w0.heap.size gs v l)) (hb : Ts[jb]? = some (thRw 71 3 29 w0.heap.size gr kv vv (rkN r) (rvN r))) (hab : ja ≠ jb) (h0a : ja ≠ 0) (h0b : jb ≠ 0) (hR : Rl l r) (hL : l.length ≤ 100000) (s : Bool) (n : Int) (x : Int) (str : ByteArray) (stop : Int) :
    Calls Tryz.prog 23 #[.pointer (some ⟨gd, 0, none⟩), .agg #[.int .i64 16, .bool s, .int .i64 n, .int .u64 x, .string str, .int .i64 stop], .int .i64 i] w (DoW w0 Ts gs gr ja jb (l) (r)) := by
  have hla := (List.getElem?_eq_some_iff.1 ha).1
  have hlb := (List.getElem?_eq_some_iff.1 hb).1
  have hl0 := (List.getElem?_eq_some_iff.1 hd).1
  have hlr : r.length ≤ 100000 := by rw [← hR.len]; exact hL
  obtain ⟨kb, hkb⟩ : ∃ kb, w.heap.size = kb := ⟨_, rfl⟩
  obtain ⟨OP, hOP⟩ : ∃ OP : Array Value, #[.int .i64 16, .bool s, .int .i64 n, .int .u64 x, .string str, .int .i64 stop] = OP := ⟨_, rfl⟩
  have h1 := h.box 31 OP
  rw [hkb] at h1
  obtain ⟨Tx, hTx⟩ : ∃ Tx, Ts ++ [thBox w0.heap.size kb 31 OP] = Tx := ⟨_, rfl⟩
  rw [hTx] at h1
  have ta : Tx[ja]? = some (thTbN w0.heap.size gs v l) := by rw [← hTx, List.getElem?_append_left hla]; exact ha
  have tb : Tx[jb]? = some (thRw 71 3 29 w0.heap.size gr kv vv (rkN r) (rvN r)) := by rw [← hTx, List.getElem?_append_left hlb]; exact hb
  have t0 : Tx[0]? = some (thBox w0.heap.size gd 52 cs) := by rw [← hTx, List.getElem?_append_left hl0]; exact hd
  have tx : Tx[Ts.length]? = some (thBox w0.heap.size kb 31 OP) := by rw [← hTx, List.getElem?_append_right (Nat.le_refl _)]; simp
  obtain ⟨wa, hwa⟩ : ∃ wa, wa = w.alloc (.cells OP 31) := ⟨_, rfl⟩
  rw [← hwa] at h1
  have HOP : Hid (∀ Z, Bk Z kb 31 OP → Z.cell? ⟨kb, 0, none⟩ = some (.int .i64 16) ∧ Z.cell? ⟨kb, 2, none⟩ = some (.int .i64 n) ∧ Z.cell? ⟨kb, 3, none⟩ = some (.int .u64 x) ∧ Z.cell? ⟨kb, 4, none⟩ = some (.string str) ∧ Z.cell? ⟨kb, 5, none⟩ = some (.int .i64 stop)) := fun Z hz => by
    rw [← hOP] at hz
    exact ⟨hz.cell 0, hz.cell 2, hz.cell 3, hz.cell 4, hz.cell 5⟩
  have d0 : w.cell? ⟨gd, 6 + i, none⟩ = some (.pointer (some ⟨gs, 0, none⟩)) := by rw [(h.bk hd).cell]; exact hc0
  have d1 : w.cell? ⟨gd, 16 + i, none⟩ = some (.pointer (some ⟨gr, 0, none⟩)) := by rw [(h.bk hd).cell]; exact hc1
  have hgl : gd < w.heap.size := (h.bk hd).lt
  have d0' : wa.cell? ⟨gd, 6 + i, none⟩ = some (.pointer (some ⟨gs, 0, none⟩)) := by rw [(h1.bk t0).cell]; exact hc0
  have d1' : wa.cell? ⟨gd, 16 + i, none⟩ = some (.pointer (some ⟨gr, 0, none⟩)) := by rw [(h1.bk t0).cell]; exact hc1
  obtain ⟨e0, e2, e3, e4, e5⟩ := HOP.out wa (h1.bk tx)
  have i0 : (0 : Int) ≤ (i : Int) := by omega
  have i1 : (i : Int) < 2 := by omega
  have HWA := Lib.hid hwa
  have HOPE := Lib.hid hOP
  have HTX := Lib.hid hTx
  have H1 := Lib.hid h1
  have TA := Lib.hid ta
  have TB := Lib.hid tb
  have TX := Lib.hid tx
  have HLA : Hid (ja < Ts.length ∧ jb < Ts.length ∧ ja ≠ jb) := ⟨hla, hlb, hab⟩
  have HB0 := Lib.hid h1.fr.size
  have hkb0 := hkb
  obtain ⟨X, hX⟩ : ∃ X, gXN (gtN l n) = X := ⟨_, rfl⟩
  obtain ⟨B, hB⟩ : ∃ B, gBN (gtN l n) = B := ⟨_, rfl⟩
  have HC1 : Hid (Calls Tryz.prog 58 #[.pointer (some ⟨gs, 0, none⟩), .int .i64 n] wa fun e w' => e = .returned (.tuple #[.int .u64 X, .bool B]) ∧ Fr [] wa w') := by
    refine (getN_any w0.heap.size gs v l n wa (h1.tbN_at ta) (by omega)).mono ?_
    rintro e w' ⟨h2, h3⟩
    exact ⟨by rw [h2, ← hX, ← hB]; cases gtN l n <;> rfl, h3⟩
  have HRQ : Hid (∀ Z, Rw 71 3 29 w0.heap.size Z gr kv vv (rkN r) (rvN r) → w0.heap.size ≤ Z.heap.size → Calls Tryz.prog 59 #[.pointer (some ⟨gr, 0, none⟩), .int .i64 n] Z fun e w' => e = .returned (.tuple #[.int .u64 X, .bool B]) ∧ Fr [] Z w') := fun Z hz hzs => by
    refine (wget_any w0.heap.size gr kv vv r n Z hz (by omega)).mono ?_
    rintro e w' ⟨h2, h3⟩
    rw [← hR.get] at h2
    exact ⟨by rw [h2, ← hX, ← hB]; cases gtN l n <;> rfl, h3⟩
  have x1 : (X == X) = true := by simp
  have x2 : (B == B) = true := by simp
  clear hX hB
  clear h hd hc0 hc1 ha hb hla hlb hl0 hab h0a h0b h1 ta tb t0 tx hOP hTx hwa hR hlr
  go_enter Tryz.func23, Tryz.ntmps23
  go_upto_region 1 with fail
  rw [HOPE.out, ← HWA.out]
  clear d0 d1
  go_wp2_with fail
  refine (Calls.mono HC1.out ?_)
  rintro en w1 ⟨rfl, hf1⟩
  have h2 := H1.out.nil hf1
  have HC2 := Lib.hid (HRQ.out _ (h2.rw_at TB.out) h2.fr.size)
  have H3 := Lib.hid h2
  clear e0 e2 e3 e4 e5 d0' d1'
  obtain ⟨_, e2, e3, e4, _⟩ := HOP.out _ (h2.bk TX.out)
  clear hf1 h2
  go_wp2_with fail
  refine (Calls.mono HC2.out ?_)
  rintro en z ⟨rfl, hf⟩
  have H4 := Lib.hid (H3.out.nil hf)
  clear hf
  go_wp2_with fail
  go_ret
  exact DoW.of (Us := [thBox w0.heap.size kb 31 OP]) H4.out (by rw [HTX.out]; exact Chg.refl _ _ _) HLA.out.1 HLA.out.2.1 TA.out TB.out

set_option maxRecDepth 100000 in
set_option maxHeartbeats 1600000 in
theorem d_word_near {w0 w : World} {Ts : List (Th w0.heap.size)} {gd i gs gr ja jb : Nat} {cs : Array Value} {v kv vv : Value} {l r : List PN} (hi : i < 2) (h : Sg w0 Ts w) (hd : Ts[0]? = some (thBox w0.heap.size gd 52 cs)) (hc0 : cs[6 + i]? = some (.pointer (some ⟨gs, 0, none⟩))) (hc1 : cs[16 + i]? = some (.pointer (some ⟨gr, 0, none⟩))) (ha : Ts[ja]? = some (thTbN w0.heap.size gs v l)) (hb : Ts[jb]? = some (thRw 71 3 29 w0.heap.size gr kv vv (rkN r) (rvN r))) (hab : ja ≠ jb) (h0a : ja ≠ 0) (h0b : jb ≠ 0) (hR : Rl l r) (hL : l.length ≤ 100000) (s : Bool) (n : Int) (x : Int) (str : ByteArray) (stop : Int) :
    Calls Tryz.prog 23 #[.pointer (some ⟨gd, 0, none⟩), .agg #[.int .i64 18, .bool s, .int .i64 n, .int .u64 x, .string str, .int .i64 stop], .int .i64 i] w (DoW w0 Ts gs gr ja jb (l) (r)) := by
  have hla := (List.getElem?_eq_some_iff.1 ha).1
  have hlb := (List.getElem?_eq_some_iff.1 hb).1
  have hl0 := (List.getElem?_eq_some_iff.1 hd).1
  have hlr : r.length ≤ 100000 := by rw [← hR.len]; exact hL
  obtain ⟨kb, hkb⟩ : ∃ kb, w.heap.size = kb := ⟨_, rfl⟩
  obtain ⟨OP, hOP⟩ : ∃ OP : Array Value, #[.int .i64 18, .bool s, .int .i64 n, .int .u64 x, .string str, .int .i64 stop] = OP := ⟨_, rfl⟩
  have h1 := h.box 31 OP
  rw [hkb] at h1
  obtain ⟨Tx, hTx⟩ : ∃ Tx, Ts ++ [thBox w0.heap.size kb 31 OP] = Tx := ⟨_, rfl⟩
  rw [hTx] at h1
  have ta : Tx[ja]? = some (thTbN w0.heap.size gs v l) := by rw [← hTx, List.getElem?_append_left hla]; exact ha
  have tb : Tx[jb]? = some (thRw 71 3 29 w0.heap.size gr kv vv (rkN r) (rvN r)) := by rw [← hTx, List.getElem?_append_left hlb]; exact hb
  have t0 : Tx[0]? = some (thBox w0.heap.size gd 52 cs) := by rw [← hTx, List.getElem?_append_left hl0]; exact hd
  have tx : Tx[Ts.length]? = some (thBox w0.heap.size kb 31 OP) := by rw [← hTx, List.getElem?_append_right (Nat.le_refl _)]; simp
  obtain ⟨wa, hwa⟩ : ∃ wa, wa = w.alloc (.cells OP 31) := ⟨_, rfl⟩
  rw [← hwa] at h1
  have HOP : Hid (∀ Z, Bk Z kb 31 OP → Z.cell? ⟨kb, 0, none⟩ = some (.int .i64 18) ∧ Z.cell? ⟨kb, 2, none⟩ = some (.int .i64 n) ∧ Z.cell? ⟨kb, 3, none⟩ = some (.int .u64 x) ∧ Z.cell? ⟨kb, 4, none⟩ = some (.string str) ∧ Z.cell? ⟨kb, 5, none⟩ = some (.int .i64 stop)) := fun Z hz => by
    rw [← hOP] at hz
    exact ⟨hz.cell 0, hz.cell 2, hz.cell 3, hz.cell 4, hz.cell 5⟩
  have d0 : w.cell? ⟨gd, 6 + i, none⟩ = some (.pointer (some ⟨gs, 0, none⟩)) := by rw [(h.bk hd).cell]; exact hc0
  have d1 : w.cell? ⟨gd, 16 + i, none⟩ = some (.pointer (some ⟨gr, 0, none⟩)) := by rw [(h.bk hd).cell]; exact hc1
  have hgl : gd < w.heap.size := (h.bk hd).lt
  have d0' : wa.cell? ⟨gd, 6 + i, none⟩ = some (.pointer (some ⟨gs, 0, none⟩)) := by rw [(h1.bk t0).cell]; exact hc0
  have d1' : wa.cell? ⟨gd, 16 + i, none⟩ = some (.pointer (some ⟨gr, 0, none⟩)) := by rw [(h1.bk t0).cell]; exact hc1
  obtain ⟨e0, e2, e3, e4, e5⟩ := HOP.out wa (h1.bk tx)
  have i0 : (0 : Int) ≤ (i : Int) := by omega
  have i1 : (i : Int) < 2 := by omega
  have HWA := Lib.hid hwa
  have HOPE := Lib.hid hOP
  have HTX := Lib.hid hTx
  have H1 := Lib.hid h1
  have TA := Lib.hid ta
  have TB := Lib.hid tb
  have TX := Lib.hid tx
  have HLA : Hid (ja < Ts.length ∧ jb < Ts.length ∧ ja ≠ jb) := ⟨hla, hlb, hab⟩
  have HB0 := Lib.hid h1.fr.size
  have hkb0 := hkb
  obtain ⟨Y, hY⟩ : ∃ Y, nXN (nrN l n) = Y := ⟨_, rfl⟩
  obtain ⟨X, hX⟩ : ∃ X, nYN (nrN l n) = X := ⟨_, rfl⟩
  obtain ⟨B, hB⟩ : ∃ B, nBN (nrN l n) = B := ⟨_, rfl⟩
  have HC1 : Hid (Calls Tryz.prog 62 #[.pointer (some ⟨gs, 0, none⟩), .int .i64 n] wa fun e w' => e = .returned (.tuple #[.int .i64 Y, .int .u64 X, .bool B]) ∧ Fr [] wa w') := by
    refine (nearN_any w0.heap.size gs v l n wa (h1.tbN_at ta) (by omega)).mono ?_
    intro e w' ho
    rw [← hX, ← hB, ← hY]
    exact nearN_of ho
  have HRQ : Hid (∀ Z, Rw 71 3 29 w0.heap.size Z gr kv vv (rkN r) (rvN r) → w0.heap.size ≤ Z.heap.size → Calls Tryz.prog 63 #[.pointer (some ⟨gr, 0, none⟩), .int .i64 n] Z fun e w' => e = .returned (.tuple #[.int .i64 Y, .int .u64 X, .bool B]) ∧ Fr [] Z w') := fun Z hz hzs => by
    refine (wnear_any w0.heap.size gr kv vv r n Z hz (by omega)).mono ?_
    intro e w' ho
    rw [← hR.near] at ho
    rw [← hX, ← hB, ← hY]
    exact nearN_of ho
  have x0 : (Y == Y) = true := by simp
  have x1 : (X == X) = true := by simp
  have x2 : (B == B) = true := by simp
  clear hX hB hY
  clear h hd hc0 hc1 ha hb hla hlb hl0 hab h0a h0b h1 ta tb t0 tx hOP hTx hwa hR hlr
  go_enter Tryz.func23, Tryz.ntmps23
  go_upto_region 1 with fail
  rw [HOPE.out, ← HWA.out]
  clear d0 d1
  go_wp2_with fail
  refine (Calls.mono HC1.out ?_)
  rintro en w1 ⟨rfl, hf1⟩
  have h2 := H1.out.nil hf1
  have HC2 := Lib.hid (HRQ.out _ (h2.rw_at TB.out) h2.fr.size)
  have H3 := Lib.hid h2
  clear e0 e2 e3 e4 e5 d0' d1'
  obtain ⟨_, e2, e3, e4, _⟩ := HOP.out _ (h2.bk TX.out)
  clear hf1 h2
  go_wp2_with fail
  refine (Calls.mono HC2.out ?_)
  rintro en z ⟨rfl, hf⟩
  have H4 := Lib.hid (H3.out.nil hf)
  clear hf
  go_wp2_with fail
  go_ret
  exact DoW.of (Us := [thBox w0.heap.size kb 31 OP]) H4.out (by rw [HTX.out]; exact Chg.refl _ _ _) HLA.out.1 HLA.out.2.1 TA.out TB.out

set_option maxRecDepth 100000 in
set_option maxHeartbeats 1600000 in
theorem d_word_len {w0 w : World} {Ts : List (Th w0.heap.size)} {gd i gs gr ja jb : Nat} {cs : Array Value} {v kv vv : Value} {l r : List PN} (hi : i < 2) (h : Sg w0 Ts w) (hd : Ts[0]? = some (thBox w0.heap.size gd 52 cs)) (hc0 : cs[6 + i]? = some (.pointer (some ⟨gs, 0, none⟩))) (hc1 : cs[16 + i]? = some (.pointer (some ⟨gr, 0, none⟩))) (ha : Ts[ja]? = some (thTbN w0.heap.size gs v l)) (hb : Ts[jb]? = some (thRw 71 3 29 w0.heap.size gr kv vv (rkN r) (rvN r))) (hab : ja ≠ jb) (h0a : ja ≠ 0) (h0b : jb ≠ 0) (hR : Rl l r) (hL : l.length ≤ 100000) (s : Bool) (n : Int) (x : Int) (str : ByteArray) (stop : Int) :
    Calls Tryz.prog 23 #[.pointer (some ⟨gd, 0, none⟩), .agg #[.int .i64 19, .bool s, .int .i64 n, .int .u64 x, .string str, .int .i64 stop], .int .i64 i] w (DoW w0 Ts gs gr ja jb (l) (r)) := by
  have hla := (List.getElem?_eq_some_iff.1 ha).1
  have hlb := (List.getElem?_eq_some_iff.1 hb).1
  have hl0 := (List.getElem?_eq_some_iff.1 hd).1
  have hlr : r.length ≤ 100000 := by rw [← hR.len]; exact hL
  obtain ⟨kb, hkb⟩ : ∃ kb, w.heap.size = kb := ⟨_, rfl⟩
  obtain ⟨OP, hOP⟩ : ∃ OP : Array Value, #[.int .i64 19, .bool s, .int .i64 n, .int .u64 x, .string str, .int .i64 stop] = OP := ⟨_, rfl⟩
  have h1 := h.box 31 OP
  rw [hkb] at h1
  obtain ⟨Tx, hTx⟩ : ∃ Tx, Ts ++ [thBox w0.heap.size kb 31 OP] = Tx := ⟨_, rfl⟩
  rw [hTx] at h1
  have ta : Tx[ja]? = some (thTbN w0.heap.size gs v l) := by rw [← hTx, List.getElem?_append_left hla]; exact ha
  have tb : Tx[jb]? = some (thRw 71 3 29 w0.heap.size gr kv vv (rkN r) (rvN r)) := by rw [← hTx, List.getElem?_append_left hlb]; exact hb
  have t0 : Tx[0]? = some (thBox w0.heap.size gd 52 cs) := by rw [← hTx, List.getElem?_append_left hl0]; exact hd
  have tx : Tx[Ts.length]? = some (thBox w0.heap.size kb 31 OP) := by rw [← hTx, List.getElem?_append_right (Nat.le_refl _)]; simp
  obtain ⟨wa, hwa⟩ : ∃ wa, wa = w.alloc (.cells OP 31) := ⟨_, rfl⟩
  rw [← hwa] at h1
  have HOP : Hid (∀ Z, Bk Z kb 31 OP → Z.cell? ⟨kb, 0, none⟩ = some (.int .i64 19) ∧ Z.cell? ⟨kb, 2, none⟩ = some (.int .i64 n) ∧ Z.cell? ⟨kb, 3, none⟩ = some (.int .u64 x) ∧ Z.cell? ⟨kb, 4, none⟩ = some (.string str) ∧ Z.cell? ⟨kb, 5, none⟩ = some (.int .i64 stop)) := fun Z hz => by
    rw [← hOP] at hz
    exact ⟨hz.cell 0, hz.cell 2, hz.cell 3, hz.cell 4, hz.cell 5⟩
  have d0 : w.cell? ⟨gd, 6 + i, none⟩ = some (.pointer (some ⟨gs, 0, none⟩)) := by rw [(h.bk hd).cell]; exact hc0
  have d1 : w.cell? ⟨gd, 16 + i, none⟩ = some (.pointer (some ⟨gr, 0, none⟩)) := by rw [(h.bk hd).cell]; exact hc1
  have hgl : gd < w.heap.size := (h.bk hd).lt
  have d0' : wa.cell? ⟨gd, 6 + i, none⟩ = some (.pointer (some ⟨gs, 0, none⟩)) := by rw [(h1.bk t0).cell]; exact hc0
  have d1' : wa.cell? ⟨gd, 16 + i, none⟩ = some (.pointer (some ⟨gr, 0, none⟩)) := by rw [(h1.bk t0).cell]; exact hc1
  obtain ⟨e0, e2, e3, e4, e5⟩ := HOP.out wa (h1.bk tx)
  have i0 : (0 : Int) ≤ (i : Int) := by omega
  have i1 : (i : Int) < 2 := by omega
  have HWA := Lib.hid hwa
  have HOPE := Lib.hid hOP
  have HTX := Lib.hid hTx
  have H1 := Lib.hid h1
  have TA := Lib.hid ta
  have TB := Lib.hid tb
  have TX := Lib.hid tx
  have HLA : Hid (ja < Ts.length ∧ jb < Ts.length ∧ ja ≠ jb) := ⟨hla, hlb, hab⟩
  have HB0 := Lib.hid h1.fr.size
  have hkb0 := hkb
  have HC1 := Lib.hid (tbN_len w0.heap.size gs v l wa (h1.tbN_at ta))
  obtain ⟨m, hm⟩ : ∃ m, l.length = m := ⟨_, rfl⟩
  have hm2 : r.length = m := by rw [← hR.len]; exact hm
  rw [hm] at HC1
  have hnb := h1.rw_at tb
  obtain ⟨A, cp, hv2, _, _⟩ := hnb.K.look
  have cr : wa.cell? ⟨gr, 0, none⟩ = some (.slice A m cp) := by
    have := hnb.B.cell 0
    rw [hv2, rkN_len, hm2] at this
    exact this
  have x1 : (((m : Nat) : Int) == ((m : Nat) : Int)) = true := by simp
  clear h hd hc0 hc1 ha hb hla hlb hl0 hab h0a h0b h1 ta tb t0 tx hOP hTx hwa hR hlr hm hm2 hnb hv2
  go_enter Tryz.func23, Tryz.ntmps23
  go_upto_region 1 with fail
  rw [HOPE.out, ← HWA.out]
  clear d0 d1
  go_wp2_with fail
  refine (Calls.mono HC1.out ?_)
  rintro en w1 ⟨rfl, rfl⟩
  go_wp2_with fail
  go_ret
  exact DoW.of (Us := [thBox w0.heap.size kb 31 OP]) H1.out (by rw [HTX.out]; exact Chg.refl _ _ _) HLA.out.1 HLA.out.2.1 TA.out TB.out

end Go.Proofs.YtdjaalkbpdmdgaaGreat
