/-
  Bag: the desk's calls of a stack.
-/
import Derived.Test.YtdjaalkbpdmdgaaGreatBgT3
namespace Go.Proofs.YtdjaalkbpdmdgaaGreat
open Go.RowKit
set_option linter.unusedVariables false

set_option maxRecDepth 100000 in
set_option maxHeartbeats 1600000 in
theorem d_stack_add {w0 w : World} {Ts : List (Th w0.heap.size)} {gd i gs gr ja jb : Nat} {cs : Array Value} {most : Int} {v v2 : Value} {L : List Int} (hi : i < 2) (h : Sg w0 Ts w) (hd : Ts[0]? = some (thBox w0.heap.size gd 52 cs)) (hc0 : cs[0 + i]? = some (.pointer (some ⟨gs, 0, none⟩))) (hc1 : cs[10 + i]? = some (.pointer (some ⟨gr, 0, none⟩))) (ha : Ts[ja]? = some (thSk 121 w0.heap.size gs most v (L.reverse))) (hb : Ts[jb]? = some (thNb 77 3 w0.heap.size gr v2 most (iV L))) (hab : ja ≠ jb) (h0a : ja ≠ 0) (h0b : jb ≠ 0) (hL : L.length ≤ 100000) (s : Bool) (n : Int) (x : Int) (str : ByteArray) (stop : Int) :
    Calls Tryz.prog 20 #[.pointer (some ⟨gd, 0, none⟩), .agg #[.int .i64 1, .bool s, .int .i64 n, .int .u64 x, .string str, .int .i64 stop], .int .i64 i] w (DoN w0 Ts 121 (fun L => L.reverse) gs gr most ja jb (addS most L n)) := by
  have hla := (List.getElem?_eq_some_iff.1 ha).1
  have hlb := (List.getElem?_eq_some_iff.1 hb).1
  have hl0 := (List.getElem?_eq_some_iff.1 hd).1
  obtain ⟨kb, hkb⟩ : ∃ kb, w.heap.size = kb := ⟨_, rfl⟩
  obtain ⟨OP, hOP⟩ : ∃ OP : Array Value, #[.int .i64 1, .bool s, .int .i64 n, .int .u64 x, .string str, .int .i64 stop] = OP := ⟨_, rfl⟩
  have h1 := h.box 31 OP
  rw [hkb] at h1
  obtain ⟨Tx, hTx⟩ : ∃ Tx, Ts ++ [thBox w0.heap.size kb 31 OP] = Tx := ⟨_, rfl⟩
  rw [hTx] at h1
  have ta : Tx[ja]? = some (thSk 121 w0.heap.size gs most v (L.reverse)) := by rw [← hTx, List.getElem?_append_left hla]; exact ha
  have tb : Tx[jb]? = some (thNb 77 3 w0.heap.size gr v2 most (iV L)) := by rw [← hTx, List.getElem?_append_left hlb]; exact hb
  have t0 : Tx[0]? = some (thBox w0.heap.size gd 52 cs) := by rw [← hTx, List.getElem?_append_left hl0]; exact hd
  have tx : Tx[Ts.length]? = some (thBox w0.heap.size kb 31 OP) := by rw [← hTx, List.getElem?_append_right (Nat.le_refl _)]; simp
  obtain ⟨wa, hwa⟩ : ∃ wa, wa = w.alloc (.cells OP 31) := ⟨_, rfl⟩
  rw [← hwa] at h1
  have HOP : Hid (∀ Z, Bk Z kb 31 OP → Z.cell? ⟨kb, 0, none⟩ = some (.int .i64 1) ∧ Z.cell? ⟨kb, 2, none⟩ = some (.int .i64 n) ∧ Z.cell? ⟨kb, 5, none⟩ = some (.int .i64 stop)) := fun Z hz => by
    rw [← hOP] at hz
    exact ⟨hz.cell 0, hz.cell 2, hz.cell 5⟩
  have d0 : w.cell? ⟨gd, 0 + i, none⟩ = some (.pointer (some ⟨gs, 0, none⟩)) := by rw [(h.bk hd).cell]; exact hc0
  have d1 : w.cell? ⟨gd, 10 + i, none⟩ = some (.pointer (some ⟨gr, 0, none⟩)) := by rw [(h.bk hd).cell]; exact hc1
  have hgl : gd < w.heap.size := (h.bk hd).lt
  have d0' : wa.cell? ⟨gd, 0 + i, none⟩ = some (.pointer (some ⟨gs, 0, none⟩)) := by rw [(h1.bk t0).cell]; exact hc0
  have d1' : wa.cell? ⟨gd, 10 + i, none⟩ = some (.pointer (some ⟨gr, 0, none⟩)) := by rw [(h1.bk t0).cell]; exact hc1
  try simp only [Nat.zero_add] at d0'
  obtain ⟨e0, e2, e5⟩ := HOP.out wa (h1.bk tx)
  have i0 : (0 : Int) ≤ (i : Int) := by omega
  have i1 : (i : Int) < 2 := by omega
  have HWA := Lib.hid hwa
  have HOPE := Lib.hid hOP
  have HTX := Lib.hid hTx
  have H1 := Lib.hid h1
  have TA := Lib.hid ta
  have TB := Lib.hid tb
  have TX := Lib.hid tx
  have HLA : Hid (ja < Ts.length ∧ jb < Ts.length ∧ ja ≠ jb) := ⟨hla, hlb, hab⟩
  have HB0 := Lib.hid h1.fr.size
  have HC1 := Lib.hid (stk_add w0.heap.size gs most v L n wa (h1.sk_at ta) (by omega) h1.fr.size)
  obtain ⟨E, hE⟩ : ∃ E, addE most L = E := ⟨_, rfl⟩
  obtain ⟨L2, hL2⟩ : ∃ L2, addS most L n = L2 := ⟨_, rfl⟩
  have HRP : Hid (∀ Z v2, Nb 77 3 w0.heap.size Z gr v2 most (iV L) → w0.heap.size ≤ Z.heap.size → Calls Tryz.prog 31 #[.pointer (some ⟨gr, 0, none⟩), .int .i64 n] Z (NbTo 77 3 w0.heap.size gr v2 most (iV L2) (.int .i64 E) Z)) := fun Z v2 hz hzs => by
    rw [← hL2, ← hE]
    exact rpushN w0.heap.size gr v2 most L n Z hz (by omega) hzs
  rw [hE, hL2] at HC1
  have x1 : (E == E) = true := by simp
  have hkb0 := hkb
  rw [hL2]
  clear h hd hc0 hc1 ha hb hla hlb hl0 hab h0a h0b h1 ta tb t0 tx hOP hTx hwa hE hL2
  go_enter Tryz.func20, Tryz.ntmps20
  go_upto_region 1 with fail
  rw [HOPE.out, ← HWA.out]
  clear d0 d1
  go_wp2_with fail
  refine (Calls.mono HC1.out ?_)
  rintro en w1 ho
  obtain ⟨rfl, v', h2⟩ := H1.out.sk TA.out ho
  obtain ⟨Ty, hTy⟩ : ∃ Ty, Tx.set ja (thSk 121 w0.heap.size gs most v' (L2.reverse)) = Ty := ⟨_, rfl⟩
  rw [hTy] at h2
  have tb2 : Ty[jb]? = some (thNb 77 3 w0.heap.size gr v2 most (iV L)) := by rw [← hTy, List.getElem?_set_ne HLA.out.2.2]; exact TB.out
  have tx2 : Ty[Ts.length]? = some (thBox w0.heap.size kb 31 OP) := by rw [← hTy, List.getElem?_set_ne (by have := HLA.out.1; omega)]; exact TX.out
  have h3 := h2.nil ((Fr.refl [] w1).drew)
  have H3 := Lib.hid h3
  have HC2 := Lib.hid (HRP.out _ _ (h3.nb_at tb2) h3.fr.size)
  have HTY := Lib.hid hTy
  have TB2 := Lib.hid tb2
  have TX2 := Lib.hid tx2
  have HK1 : Hid (w1.drew.cell? ⟨kb, 2, none⟩ = some (.int .i64 n)) := (HOP.out _ (h3.bk tx2)).2.1
  have HK2 : Hid (∀ Z v3, Sg w0 (Ty.set jb (thNb 77 3 w0.heap.size gr v3 most (iV L2))) Z → Z.cell? ⟨kb, 2, none⟩ = some (.int .i64 n)) := fun Z v3 hz =>
    (HOP.out _ (hz.bk (i := Ts.length) (by rw [List.getElem?_set_ne (by have := HLA.out.2.1; omega)]; exact TX2.out))).2.1
  clear ho h2 hTy tb2 tx2 h3 e0 e2 e5 d0' d1'
  go_upto_region 6 with fail
  go_region_held3 (fun W => W.cell? ⟨kb, 2, none⟩ = some (.int .i64 n)) ((first | exact HK2.out _ _ (by assumption) | exact HK1.out))
    ((first | (go_at_call 16; refine (num_any _ _).mono ?_; rintro en z0 ⟨rfl, rfl⟩) | (go_at_call 31; refine (Calls.mono HC2.out ?_); rintro en z ho; obtain ⟨rfl, v3, h4⟩ := H3.out.nb TB2.out ho)))
  have H4 := Lib.hid h4
  clear h4 ho
  go_wp2_with fail
  go_ret
  refine DoN.of (Us := [thBox w0.heap.size kb 31 OP]) H4.out ?_ HLA.out.1 HLA.out.2.1 (v := v') (v2 := v3) ?_ ?_
  · rw [← HTY.out, HTX.out]
    exact ((Chg.refl _ _ _).set1 _).set2 _
  · rw [List.getElem?_set_ne (Ne.symm HLA.out.2.2), ← HTY.out, List.getElem?_set_self (by rw [← HTX.out, List.length_append]; have := HLA.out.1; omega)]
  · rw [List.getElem?_set_self (by rw [← HTY.out, List.length_set, ← HTX.out, List.length_append]; have := HLA.out.2.1; omega)]

set_option maxRecDepth 100000 in
set_option maxHeartbeats 1600000 in
theorem d_stack_take {w0 w : World} {Ts : List (Th w0.heap.size)} {gd i gs gr ja jb : Nat} {cs : Array Value} {most : Int} {v v2 : Value} {L : List Int} (hi : i < 2) (h : Sg w0 Ts w) (hd : Ts[0]? = some (thBox w0.heap.size gd 52 cs)) (hc0 : cs[0 + i]? = some (.pointer (some ⟨gs, 0, none⟩))) (hc1 : cs[10 + i]? = some (.pointer (some ⟨gr, 0, none⟩))) (ha : Ts[ja]? = some (thSk 121 w0.heap.size gs most v (L.reverse))) (hb : Ts[jb]? = some (thNb 77 3 w0.heap.size gr v2 most (iV L))) (hab : ja ≠ jb) (h0a : ja ≠ 0) (h0b : jb ≠ 0) (hL : L.length ≤ 100000) (s : Bool) (n : Int) (x : Int) (str : ByteArray) (stop : Int) :
    Calls Tryz.prog 20 #[.pointer (some ⟨gd, 0, none⟩), .agg #[.int .i64 2, .bool s, .int .i64 n, .int .u64 x, .string str, .int .i64 stop], .int .i64 i] w (DoN w0 Ts 121 (fun L => L.reverse) gs gr most ja jb (L.tail)) := by
  have hla := (List.getElem?_eq_some_iff.1 ha).1
  have hlb := (List.getElem?_eq_some_iff.1 hb).1
  have hl0 := (List.getElem?_eq_some_iff.1 hd).1
  obtain ⟨kb, hkb⟩ : ∃ kb, w.heap.size = kb := ⟨_, rfl⟩
  obtain ⟨OP, hOP⟩ : ∃ OP : Array Value, #[.int .i64 2, .bool s, .int .i64 n, .int .u64 x, .string str, .int .i64 stop] = OP := ⟨_, rfl⟩
  have h1 := h.box 31 OP
  rw [hkb] at h1
  obtain ⟨Tx, hTx⟩ : ∃ Tx, Ts ++ [thBox w0.heap.size kb 31 OP] = Tx := ⟨_, rfl⟩
  rw [hTx] at h1
  have ta : Tx[ja]? = some (thSk 121 w0.heap.size gs most v (L.reverse)) := by rw [← hTx, List.getElem?_append_left hla]; exact ha
  have tb : Tx[jb]? = some (thNb 77 3 w0.heap.size gr v2 most (iV L)) := by rw [← hTx, List.getElem?_append_left hlb]; exact hb
  have t0 : Tx[0]? = some (thBox w0.heap.size gd 52 cs) := by rw [← hTx, List.getElem?_append_left hl0]; exact hd
  have tx : Tx[Ts.length]? = some (thBox w0.heap.size kb 31 OP) := by rw [← hTx, List.getElem?_append_right (Nat.le_refl _)]; simp
  obtain ⟨wa, hwa⟩ : ∃ wa, wa = w.alloc (.cells OP 31) := ⟨_, rfl⟩
  rw [← hwa] at h1
  have HOP : Hid (∀ Z, Bk Z kb 31 OP → Z.cell? ⟨kb, 0, none⟩ = some (.int .i64 2) ∧ Z.cell? ⟨kb, 2, none⟩ = some (.int .i64 n) ∧ Z.cell? ⟨kb, 5, none⟩ = some (.int .i64 stop)) := fun Z hz => by
    rw [← hOP] at hz
    exact ⟨hz.cell 0, hz.cell 2, hz.cell 5⟩
  have d0 : w.cell? ⟨gd, 0 + i, none⟩ = some (.pointer (some ⟨gs, 0, none⟩)) := by rw [(h.bk hd).cell]; exact hc0
  have d1 : w.cell? ⟨gd, 10 + i, none⟩ = some (.pointer (some ⟨gr, 0, none⟩)) := by rw [(h.bk hd).cell]; exact hc1
  have hgl : gd < w.heap.size := (h.bk hd).lt
  have d0' : wa.cell? ⟨gd, 0 + i, none⟩ = some (.pointer (some ⟨gs, 0, none⟩)) := by rw [(h1.bk t0).cell]; exact hc0
  have d1' : wa.cell? ⟨gd, 10 + i, none⟩ = some (.pointer (some ⟨gr, 0, none⟩)) := by rw [(h1.bk t0).cell]; exact hc1
  try simp only [Nat.zero_add] at d0'
  obtain ⟨e0, e2, e5⟩ := HOP.out wa (h1.bk tx)
  have i0 : (0 : Int) ≤ (i : Int) := by omega
  have i1 : (i : Int) < 2 := by omega
  have HWA := Lib.hid hwa
  have HOPE := Lib.hid hOP
  have HTX := Lib.hid hTx
  have H1 := Lib.hid h1
  have TA := Lib.hid ta
  have TB := Lib.hid tb
  have TX := Lib.hid tx
  have HLA : Hid (ja < Ts.length ∧ jb < Ts.length ∧ ja ≠ jb) := ⟨hla, hlb, hab⟩
  have HB0 := Lib.hid h1.fr.size
  have HC1 := Lib.hid (stk_take w0.heap.size gs most v L wa (h1.sk_at ta))
  obtain ⟨X, hX⟩ : ∃ X, popX L = X := ⟨_, rfl⟩
  obtain ⟨B, hB⟩ : ∃ B, popB L = B := ⟨_, rfl⟩
  obtain ⟨L2, hL2⟩ : ∃ L2, L.tail = L2 := ⟨_, rfl⟩
  have HRP : Hid (∀ Z v2, Nb 77 3 w0.heap.size Z gr v2 most (iV L) → w0.heap.size ≤ Z.heap.size → Calls Tryz.prog 33 #[.pointer (some ⟨gr, 0, none⟩)] Z (NbTo 77 3 w0.heap.size gr v2 most (iV L2) (.tuple #[.int .i64 X, .bool B]) Z)) := fun Z v2 hz hzs => by
    rw [← hL2, ← hX, ← hB]
    exact rfirst w0.heap.size gr v2 most L Z hz (by omega) hzs
  rw [hX, hB, hL2] at HC1
  have x1 : (X == X) = true := by simp
  have x2 : (B == B) = true := by simp
  have hkb0 := hkb
  rw [hL2]
  clear h hd hc0 hc1 ha hb hla hlb hl0 hab h0a h0b h1 ta tb t0 tx hOP hTx hwa hX hB hL2
  go_enter Tryz.func20, Tryz.ntmps20
  go_upto_region 1 with fail
  rw [HOPE.out, ← HWA.out]
  clear d0 d1
  go_wp2_with fail
  refine (Calls.mono HC1.out ?_)
  rintro en w1 ho
  obtain ⟨rfl, v', h2⟩ := H1.out.sk TA.out ho
  obtain ⟨Ty, hTy⟩ : ∃ Ty, Tx.set ja (thSk 121 w0.heap.size gs most v' (L2.reverse)) = Ty := ⟨_, rfl⟩
  rw [hTy] at h2
  have tb2 : Ty[jb]? = some (thNb 77 3 w0.heap.size gr v2 most (iV L)) := by rw [← hTy, List.getElem?_set_ne HLA.out.2.2]; exact TB.out
  have H3 := Lib.hid h2
  have HC2 := Lib.hid (HRP.out _ _ (h2.nb_at tb2) h2.fr.size)
  have HTY := Lib.hid hTy
  have TB2 := Lib.hid tb2
  clear ho h2 hTy tb2 e0 e2 e5 d0' d1'
  go_wp2_with fail
  refine (Calls.mono HC2.out ?_)
  rintro en z ho
  obtain ⟨rfl, v3, h4⟩ := H3.out.nb TB2.out ho
  have H4 := Lib.hid h4
  clear h4 ho
  go_wp2_with fail
  go_ret
  refine DoN.of (Us := [thBox w0.heap.size kb 31 OP]) H4.out ?_ HLA.out.1 HLA.out.2.1 (v := v') (v2 := v3) ?_ ?_
  · rw [← HTY.out, HTX.out]
    exact ((Chg.refl _ _ _).set1 _).set2 _
  · rw [List.getElem?_set_ne (Ne.symm HLA.out.2.2), ← HTY.out, List.getElem?_set_self (by rw [← HTX.out, List.length_append]; have := HLA.out.1; omega)]
  · rw [List.getElem?_set_self (by rw [← HTY.out, List.length_set, ← HTX.out, List.length_append]; have := HLA.out.2.1; omega)]

set_option maxRecDepth 100000 in
set_option maxHeartbeats 1600000 in
theorem d_stack_len {w0 w : World} {Ts : List (Th w0.heap.size)} {gd i gs gr ja jb : Nat} {cs : Array Value} {most : Int} {v v2 : Value} {L : List Int} (hi : i < 2) (h : Sg w0 Ts w) (hd : Ts[0]? = some (thBox w0.heap.size gd 52 cs)) (hc0 : cs[0 + i]? = some (.pointer (some ⟨gs, 0, none⟩))) (hc1 : cs[10 + i]? = some (.pointer (some ⟨gr, 0, none⟩))) (ha : Ts[ja]? = some (thSk 121 w0.heap.size gs most v (L.reverse))) (hb : Ts[jb]? = some (thNb 77 3 w0.heap.size gr v2 most (iV L))) (hab : ja ≠ jb) (h0a : ja ≠ 0) (h0b : jb ≠ 0) (hL : L.length ≤ 100000) (s : Bool) (n : Int) (x : Int) (str : ByteArray) (stop : Int) :
    Calls Tryz.prog 20 #[.pointer (some ⟨gd, 0, none⟩), .agg #[.int .i64 3, .bool s, .int .i64 n, .int .u64 x, .string str, .int .i64 stop], .int .i64 i] w (DoN w0 Ts 121 (fun L => L.reverse) gs gr most ja jb (L)) := by
  have hla := (List.getElem?_eq_some_iff.1 ha).1
  have hlb := (List.getElem?_eq_some_iff.1 hb).1
  have hl0 := (List.getElem?_eq_some_iff.1 hd).1
  obtain ⟨kb, hkb⟩ : ∃ kb, w.heap.size = kb := ⟨_, rfl⟩
  obtain ⟨OP, hOP⟩ : ∃ OP : Array Value, #[.int .i64 3, .bool s, .int .i64 n, .int .u64 x, .string str, .int .i64 stop] = OP := ⟨_, rfl⟩
  have h1 := h.box 31 OP
  rw [hkb] at h1
  obtain ⟨Tx, hTx⟩ : ∃ Tx, Ts ++ [thBox w0.heap.size kb 31 OP] = Tx := ⟨_, rfl⟩
  rw [hTx] at h1
  have ta : Tx[ja]? = some (thSk 121 w0.heap.size gs most v (L.reverse)) := by rw [← hTx, List.getElem?_append_left hla]; exact ha
  have tb : Tx[jb]? = some (thNb 77 3 w0.heap.size gr v2 most (iV L)) := by rw [← hTx, List.getElem?_append_left hlb]; exact hb
  have t0 : Tx[0]? = some (thBox w0.heap.size gd 52 cs) := by rw [← hTx, List.getElem?_append_left hl0]; exact hd
  have tx : Tx[Ts.length]? = some (thBox w0.heap.size kb 31 OP) := by rw [← hTx, List.getElem?_append_right (Nat.le_refl _)]; simp
  obtain ⟨wa, hwa⟩ : ∃ wa, wa = w.alloc (.cells OP 31) := ⟨_, rfl⟩
  rw [← hwa] at h1
  have HOP : Hid (∀ Z, Bk Z kb 31 OP → Z.cell? ⟨kb, 0, none⟩ = some (.int .i64 3) ∧ Z.cell? ⟨kb, 2, none⟩ = some (.int .i64 n) ∧ Z.cell? ⟨kb, 5, none⟩ = some (.int .i64 stop)) := fun Z hz => by
    rw [← hOP] at hz
    exact ⟨hz.cell 0, hz.cell 2, hz.cell 5⟩
  have d0 : w.cell? ⟨gd, 0 + i, none⟩ = some (.pointer (some ⟨gs, 0, none⟩)) := by rw [(h.bk hd).cell]; exact hc0
  have d1 : w.cell? ⟨gd, 10 + i, none⟩ = some (.pointer (some ⟨gr, 0, none⟩)) := by rw [(h.bk hd).cell]; exact hc1
  have hgl : gd < w.heap.size := (h.bk hd).lt
  have d0' : wa.cell? ⟨gd, 0 + i, none⟩ = some (.pointer (some ⟨gs, 0, none⟩)) := by rw [(h1.bk t0).cell]; exact hc0
  have d1' : wa.cell? ⟨gd, 10 + i, none⟩ = some (.pointer (some ⟨gr, 0, none⟩)) := by rw [(h1.bk t0).cell]; exact hc1
  try simp only [Nat.zero_add] at d0'
  obtain ⟨e0, e2, e5⟩ := HOP.out wa (h1.bk tx)
  have i0 : (0 : Int) ≤ (i : Int) := by omega
  have i1 : (i : Int) < 2 := by omega
  have HWA := Lib.hid hwa
  have HOPE := Lib.hid hOP
  have HTX := Lib.hid hTx
  have H1 := Lib.hid h1
  have TA := Lib.hid ta
  have TB := Lib.hid tb
  have TX := Lib.hid tx
  have HLA : Hid (ja < Ts.length ∧ jb < Ts.length ∧ ja ≠ jb) := ⟨hla, hlb, hab⟩
  have HB0 := Lib.hid h1.fr.size
  have HC1 := Lib.hid (stack_len w0.heap.size gs most v _ wa (h1.sk_at ta))
  obtain ⟨m, hm⟩ : ∃ m, L.length = m := ⟨_, rfl⟩
  have hm2 : (L.reverse).length = m := by simpa using hm
  rw [hm2] at HC1
  have hnb := h1.nb_at tb
  obtain ⟨A, cp, hv2, _, _⟩ := hnb.L.look
  have cr : wa.cell? ⟨gr, 0, none⟩ = some (.slice A m cp) := by
    have := hnb.B.cell 0
    rw [hv2, iV_length, hm] at this
    exact this
  have x1 : (((m : Nat) : Int) == ((m : Nat) : Int)) = true := by simp
  have hkb0 := hkb
  clear h hd hc0 hc1 ha hb hla hlb hl0 hab h0a h0b h1 ta tb t0 tx hOP hTx hwa hm hm2 hnb hv2
  go_enter Tryz.func20, Tryz.ntmps20
  go_upto_region 1 with fail
  rw [HOPE.out, ← HWA.out]
  clear d0 d1
  go_wp2_with fail
  refine (Calls.mono HC1.out ?_)
  rintro en w1 ⟨rfl, rfl⟩
  go_wp2_with fail
  go_ret
  exact DoN.of (Us := [thBox w0.heap.size kb 31 OP]) H1.out (by rw [HTX.out]; exact Chg.refl _ _ _) HLA.out.1 HLA.out.2.1 TA.out TB.out

end Go.Proofs.YtdjaalkbpdmdgaaGreat
