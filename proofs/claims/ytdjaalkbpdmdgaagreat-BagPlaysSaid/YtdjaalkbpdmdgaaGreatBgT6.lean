/-
  Bag: the desk's calls of a queue, but Map.
-/
import Derived.Test.YtdjaalkbpdmdgaaGreatBgT5
namespace Go.Proofs.YtdjaalkbpdmdgaaGreat
open Go.RowKit
set_option linter.unusedVariables false

set_option maxRecDepth 100000 in
set_option maxHeartbeats 1600000 in
theorem d_queue_add {w0 w : World} {Ts : List (Th w0.heap.size)} {gd i gs gr ja jb : Nat} {cs : Array Value} {most : Int} {v v2 : Value} {L : List Int} (hi : i < 2) (h : Sg w0 Ts w) (hd : Ts[0]? = some (thBox w0.heap.size gd 52 cs)) (hc0 : cs[2 + i]? = some (.pointer (some ⟨gs, 0, none⟩))) (hc1 : cs[12 + i]? = some (.pointer (some ⟨gr, 0, none⟩))) (ha : Ts[ja]? = some (thSk 122 w0.heap.size gs most v (L))) (hb : Ts[jb]? = some (thNb 77 3 w0.heap.size gr v2 most (iV L))) (hab : ja ≠ jb) (h0a : ja ≠ 0) (h0b : jb ≠ 0) (hL : L.length ≤ 100000) (s : Bool) (n : Int) (x : Int) (str : ByteArray) (stop : Int) :
    Calls Tryz.prog 21 #[.pointer (some ⟨gd, 0, none⟩), .agg #[.int .i64 5, .bool s, .int .i64 n, .int .u64 x, .string str, .int .i64 stop], .int .i64 i] w (DoN w0 Ts 122 (fun L => L) gs gr most ja jb (addQ most L n)) := by
  have hla := (List.getElem?_eq_some_iff.1 ha).1
  have hlb := (List.getElem?_eq_some_iff.1 hb).1
  have hl0 := (List.getElem?_eq_some_iff.1 hd).1
  obtain ⟨kb, hkb⟩ : ∃ kb, w.heap.size = kb := ⟨_, rfl⟩
  obtain ⟨OP, hOP⟩ : ∃ OP : Array Value, #[.int .i64 5, .bool s, .int .i64 n, .int .u64 x, .string str, .int .i64 stop] = OP := ⟨_, rfl⟩
  have h1 := h.box 31 OP
  rw [hkb] at h1
  obtain ⟨Tx, hTx⟩ : ∃ Tx, Ts ++ [thBox w0.heap.size kb 31 OP] = Tx := ⟨_, rfl⟩
  rw [hTx] at h1
  have ta : Tx[ja]? = some (thSk 122 w0.heap.size gs most v (L)) := by rw [← hTx, List.getElem?_append_left hla]; exact ha
  have tb : Tx[jb]? = some (thNb 77 3 w0.heap.size gr v2 most (iV L)) := by rw [← hTx, List.getElem?_append_left hlb]; exact hb
  have t0 : Tx[0]? = some (thBox w0.heap.size gd 52 cs) := by rw [← hTx, List.getElem?_append_left hl0]; exact hd
  have tx : Tx[Ts.length]? = some (thBox w0.heap.size kb 31 OP) := by rw [← hTx, List.getElem?_append_right (Nat.le_refl _)]; simp
  obtain ⟨wa, hwa⟩ : ∃ wa, wa = w.alloc (.cells OP 31) := ⟨_, rfl⟩
  rw [← hwa] at h1
  have HOP : Hid (∀ Z, Bk Z kb 31 OP → Z.cell? ⟨kb, 0, none⟩ = some (.int .i64 5) ∧ Z.cell? ⟨kb, 2, none⟩ = some (.int .i64 n) ∧ Z.cell? ⟨kb, 5, none⟩ = some (.int .i64 stop)) := fun Z hz => by
    rw [← hOP] at hz
    exact ⟨hz.cell 0, hz.cell 2, hz.cell 5⟩
  have d0 : w.cell? ⟨gd, 2 + i, none⟩ = some (.pointer (some ⟨gs, 0, none⟩)) := by rw [(h.bk hd).cell]; exact hc0
  have d1 : w.cell? ⟨gd, 12 + i, none⟩ = some (.pointer (some ⟨gr, 0, none⟩)) := by rw [(h.bk hd).cell]; exact hc1
  have hgl : gd < w.heap.size := (h.bk hd).lt
  have d0' : wa.cell? ⟨gd, 2 + i, none⟩ = some (.pointer (some ⟨gs, 0, none⟩)) := by rw [(h1.bk t0).cell]; exact hc0
  have d1' : wa.cell? ⟨gd, 12 + i, none⟩ = some (.pointer (some ⟨gr, 0, none⟩)) := by rw [(h1.bk t0).cell]; exact hc1
  try simp only [Nat.zero_add] at d0'
  obtain ⟨e0, e2, e5⟩ := HOP.out wa (h1.bk tx)
  have i0 : (0 : Int) ≤ (i : Int) := by omega
  have i1 : (i : Int) < 2 := by omega
  have HWA := Lib.hid hwa
  have HOPE := Lib.hid hOP
  have HTX := Lib.hid hTx
  have H1 := Lib.hid h1
  have TA := Lib.hid ta
  have TB := Lib.hid tb
  have TX := Lib.hid tx
  have HLA : Hid (ja < Ts.length ∧ jb < Ts.length ∧ ja ≠ jb) := ⟨hla, hlb, hab⟩
  have HB0 := Lib.hid h1.fr.size
  have HC1 := Lib.hid (que_add w0.heap.size gs most v L n wa (h1.sk_at ta) (by omega) h1.fr.size)
  obtain ⟨E, hE⟩ : ∃ E, addE most L = E := ⟨_, rfl⟩
  obtain ⟨L2, hL2⟩ : ∃ L2, addQ most L n = L2 := ⟨_, rfl⟩
  have HRP : Hid (∀ Z v2, Nb 77 3 w0.heap.size Z gr v2 most (iV L) → w0.heap.size ≤ Z.heap.size → Calls Tryz.prog 40 #[.pointer (some ⟨gr, 0, none⟩), .int .i64 n] Z (NbTo 77 3 w0.heap.size gr v2 most (iV L2) (.int .i64 E) Z)) := fun Z v2 hz hzs => by
    rw [← hL2, ← hE]
    exact rputN w0.heap.size gr v2 most L n Z hz (by omega) hzs
  rw [hE, hL2] at HC1
  have x1 : (E == E) = true := by simp
  have hkb0 := hkb
  rw [hL2]
  clear h hd hc0 hc1 ha hb hla hlb hl0 hab h0a h0b h1 ta tb t0 tx hOP hTx hwa hE hL2
  go_enter Tryz.func21, Tryz.ntmps21
  go_upto_region 1 with fail
  rw [HOPE.out, ← HWA.out]
  clear d0 d1
  go_wp2_with fail
  refine (Calls.mono HC1.out ?_)
  rintro en w1 ho
  obtain ⟨rfl, v', h2⟩ := H1.out.sk TA.out ho
  obtain ⟨Ty, hTy⟩ : ∃ Ty, Tx.set ja (thSk 122 w0.heap.size gs most v' (L2)) = Ty := ⟨_, rfl⟩
  rw [hTy] at h2
  have tb2 : Ty[jb]? = some (thNb 77 3 w0.heap.size gr v2 most (iV L)) := by rw [← hTy, List.getElem?_set_ne HLA.out.2.2]; exact TB.out
  have tx2 : Ty[Ts.length]? = some (thBox w0.heap.size kb 31 OP) := by rw [← hTy, List.getElem?_set_ne (by have := HLA.out.1; omega)]; exact TX.out
  have h3 := h2.nil ((Fr.refl [] w1).drew)
  have H3 := Lib.hid h3
  have HC2 := Lib.hid (HRP.out _ _ (h3.nb_at tb2) h3.fr.size)
  have HTY := Lib.hid hTy
  have TB2 := Lib.hid tb2
  have TX2 := Lib.hid tx2
  have HK1 : Hid (w1.drew.cell? ⟨kb, 2, none⟩ = some (.int .i64 n)) := (HOP.out _ (h3.bk tx2)).2.1
  have HK2 : Hid (∀ Z v3, Sg w0 (Ty.set jb (thNb 77 3 w0.heap.size gr v3 most (iV L2))) Z → Z.cell? ⟨kb, 2, none⟩ = some (.int .i64 n)) := fun Z v3 hz =>
    (HOP.out _ (hz.bk (i := Ts.length) (by rw [List.getElem?_set_ne (by have := HLA.out.2.1; omega)]; exact TX2.out))).2.1
  clear ho h2 hTy tb2 tx2 h3 e0 e2 e5 d0' d1'
  go_upto_region 6 with fail
  go_region_held3 (fun W => W.cell? ⟨kb, 2, none⟩ = some (.int .i64 n)) ((first | exact HK2.out _ _ (by assumption) | exact HK1.out))
    ((first | (go_at_call 16; refine (num_any _ _).mono ?_; rintro en z0 ⟨rfl, rfl⟩) | (go_at_call 40; refine (Calls.mono HC2.out ?_); rintro en z ho; obtain ⟨rfl, v3, h4⟩ := H3.out.nb TB2.out ho)))
  have H4 := Lib.hid h4
  clear h4 ho
  go_wp2_with fail
  go_ret
  refine DoN.of (Us := [thBox w0.heap.size kb 31 OP]) H4.out ?_ HLA.out.1 HLA.out.2.1 (v := v') (v2 := v3) ?_ ?_
  · rw [← HTY.out, HTX.out]
    exact ((Chg.refl _ _ _).set1 _).set2 _
  · rw [List.getElem?_set_ne (Ne.symm HLA.out.2.2), ← HTY.out, List.getElem?_set_self (by rw [← HTX.out, List.length_append]; have := HLA.out.1; omega)]
  · rw [List.getElem?_set_self (by rw [← HTY.out, List.length_set, ← HTX.out, List.length_append]; have := HLA.out.2.1; omega)]

set_option maxRecDepth 100000 in
set_option maxHeartbeats 1600000 in
theorem d_queue_take {w0 w : World} {Ts : List (Th w0.heap.size)} {gd i gs gr ja jb : Nat} {cs : Array Value} {most : Int} {v v2 : Value} {L : List Int} (hi : i < 2) (h : Sg w0 Ts w) (hd : Ts[0]? = some (thBox w0.heap.size gd 52 cs)) (hc0 : cs[2 + i]? = some (.pointer (some ⟨gs, 0, none⟩))) (hc1 : cs[12 + i]? = some (.pointer (some ⟨gr, 0, none⟩))) (ha : Ts[ja]? = some (thSk 122 w0.heap.size gs most v (L))) (hb : Ts[jb]? = some (thNb 77 3 w0.heap.size gr v2 most (iV L))) (hab : ja ≠ jb) (h0a : ja ≠ 0) (h0b : jb ≠ 0) (hL : L.length ≤ 100000) (s : Bool) (n : Int) (x : Int) (str : ByteArray) (stop : Int) :
    Calls Tryz.prog 21 #[.pointer (some ⟨gd, 0, none⟩), .agg #[.int .i64 6, .bool s, .int .i64 n, .int .u64 x, .string str, .int .i64 stop], .int .i64 i] w (DoN w0 Ts 122 (fun L => L) gs gr most ja jb (L.tail)) := by
  have hla := (List.getElem?_eq_some_iff.1 ha).1
  have hlb := (List.getElem?_eq_some_iff.1 hb).1
  have hl0 := (List.getElem?_eq_some_iff.1 hd).1
  obtain ⟨kb, hkb⟩ : ∃ kb, w.heap.size = kb := ⟨_, rfl⟩
  obtain ⟨OP, hOP⟩ : ∃ OP : Array Value, #[.int .i64 6, .bool s, .int .i64 n, .int .u64 x, .string str, .int .i64 stop] = OP := ⟨_, rfl⟩
  have h1 := h.box 31 OP
  rw [hkb] at h1
  obtain ⟨Tx, hTx⟩ : ∃ Tx, Ts ++ [thBox w0.heap.size kb 31 OP] = Tx := ⟨_, rfl⟩
  rw [hTx] at h1
  have ta : Tx[ja]? = some (thSk 122 w0.heap.size gs most v (L)) := by rw [← hTx, List.getElem?_append_left hla]; exact ha
  have tb : Tx[jb]? = some (thNb 77 3 w0.heap.size gr v2 most (iV L)) := by rw [← hTx, List.getElem?_append_left hlb]; exact hb
  have t0 : Tx[0]? = some (thBox w0.heap.size gd 52 cs) := by rw [← hTx, List.getElem?_append_left hl0]; exact hd
  have tx : Tx[Ts.length]? = some (thBox w0.heap.size kb 31 OP) := by rw [← hTx, List.getElem?_append_right (Nat.le_refl _)]; simp
  obtain ⟨wa, hwa⟩ : ∃ wa, wa = w.alloc (.cells OP 31) := ⟨_, rfl⟩
  rw [← hwa] at h1
  have HOP : Hid (∀ Z, Bk Z kb 31 OP → Z.cell? ⟨kb, 0, none⟩ = some (.int .i64 6) ∧ Z.cell? ⟨kb, 2, none⟩ = some (.int .i64 n) ∧ Z.cell? ⟨kb, 5, none⟩ = some (.int .i64 stop)) := fun Z hz => by
    rw [← hOP] at hz
    exact ⟨hz.cell 0, hz.cell 2, hz.cell 5⟩
  have d0 : w.cell? ⟨gd, 2 + i, none⟩ = some (.pointer (some ⟨gs, 0, none⟩)) := by rw [(h.bk hd).cell]; exact hc0
  have d1 : w.cell? ⟨gd, 12 + i, none⟩ = some (.pointer (some ⟨gr, 0, none⟩)) := by rw [(h.bk hd).cell]; exact hc1
  have hgl : gd < w.heap.size := (h.bk hd).lt
  have d0' : wa.cell? ⟨gd, 2 + i, none⟩ = some (.pointer (some ⟨gs, 0, none⟩)) := by rw [(h1.bk t0).cell]; exact hc0
  have d1' : wa.cell? ⟨gd, 12 + i, none⟩ = some (.pointer (some ⟨gr, 0, none⟩)) := by rw [(h1.bk t0).cell]; exact hc1
  try simp only [Nat.zero_add] at d0'
  obtain ⟨e0, e2, e5⟩ := HOP.out wa (h1.bk tx)
  have i0 : (0 : Int) ≤ (i : Int) := by omega
  have i1 : (i : Int) < 2 := by omega
  have HWA := Lib.hid hwa
  have HOPE := Lib.hid hOP
  have HTX := Lib.hid hTx
  have H1 := Lib.hid h1
  have TA := Lib.hid ta
  have TB := Lib.hid tb
  have TX := Lib.hid tx
  have HLA : Hid (ja < Ts.length ∧ jb < Ts.length ∧ ja ≠ jb) := ⟨hla, hlb, hab⟩
  have HB0 := Lib.hid h1.fr.size
  have HC1 := Lib.hid (que_take w0.heap.size gs most v L wa (h1.sk_at ta))
  obtain ⟨X, hX⟩ : ∃ X, popX L = X := ⟨_, rfl⟩
  obtain ⟨B, hB⟩ : ∃ B, popB L = B := ⟨_, rfl⟩
  obtain ⟨L2, hL2⟩ : ∃ L2, L.tail = L2 := ⟨_, rfl⟩
  have HRP : Hid (∀ Z v2, Nb 77 3 w0.heap.size Z gr v2 most (iV L) → w0.heap.size ≤ Z.heap.size → Calls Tryz.prog 33 #[.pointer (some ⟨gr, 0, none⟩)] Z (NbTo 77 3 w0.heap.size gr v2 most (iV L2) (.tuple #[.int .i64 X, .bool B]) Z)) := fun Z v2 hz hzs => by
    rw [← hL2, ← hX, ← hB]
    exact rfirst w0.heap.size gr v2 most L Z hz (by omega) hzs
  rw [hX, hB, hL2] at HC1
  have x1 : (X == X) = true := by simp
  have x2 : (B == B) = true := by simp
  have hkb0 := hkb
  rw [hL2]
  clear h hd hc0 hc1 ha hb hla hlb hl0 hab h0a h0b h1 ta tb t0 tx hOP hTx hwa hX hB hL2
  go_enter Tryz.func21, Tryz.ntmps21
  go_upto_region 1 with fail
  rw [HOPE.out, ← HWA.out]
  clear d0 d1
  go_wp2_with fail
  refine (Calls.mono HC1.out ?_)
  rintro en w1 ho
  obtain ⟨rfl, v', h2⟩ := H1.out.sk TA.out ho
  obtain ⟨Ty, hTy⟩ : ∃ Ty, Tx.set ja (thSk 122 w0.heap.size gs most v' (L2)) = Ty := ⟨_, rfl⟩
  rw [hTy] at h2
  have tb2 : Ty[jb]? = some (thNb 77 3 w0.heap.size gr v2 most (iV L)) := by rw [← hTy, List.getElem?_set_ne HLA.out.2.2]; exact TB.out
  have H3 := Lib.hid h2
  have HC2 := Lib.hid (HRP.out _ _ (h2.nb_at tb2) h2.fr.size)
  have HTY := Lib.hid hTy
  have TB2 := Lib.hid tb2
  clear ho h2 hTy tb2 e0 e2 e5 d0' d1'
  go_wp2_with fail
  refine (Calls.mono HC2.out ?_)
  rintro en z ho
  obtain ⟨rfl, v3, h4⟩ := H3.out.nb TB2.out ho
  have H4 := Lib.hid h4
  clear h4 ho
  go_wp2_with fail
  go_ret
  refine DoN.of (Us := [thBox w0.heap.size kb 31 OP]) H4.out ?_ HLA.out.1 HLA.out.2.1 (v := v') (v2 := v3) ?_ ?_
  · rw [← HTY.out, HTX.out]
    exact ((Chg.refl _ _ _).set1 _).set2 _
  · rw [List.getElem?_set_ne (Ne.symm HLA.out.2.2), ← HTY.out, List.getElem?_set_self (by rw [← HTX.out, List.length_append]; have := HLA.out.1; omega)]
  · rw [List.getElem?_set_self (by rw [← HTY.out, List.length_set, ← HTX.out, List.length_append]; have := HLA.out.2.1; omega)]

set_option maxRecDepth 100000 in
set_option maxHeartbeats 1600000 in
theorem d_queue_len {w0 w : World} {Ts : List (Th w0.heap.size)} {gd i gs gr ja jb : Nat} {cs : Array Value} {most : Int} {v v2 : Value} {L : List Int} (hi : i < 2) (h : Sg w0 Ts w) (hd : Ts[0]? = some (thBox w0.heap.size gd 52 cs)) (hc0 : cs[2 + i]? = some (.pointer (some ⟨gs, 0, none⟩))) (hc1 : cs[12 + i]? = some (.pointer (some ⟨gr, 0, none⟩))) (ha : Ts[ja]? = some (thSk 122 w0.heap.size gs most v (L))) (hb : Ts[jb]? = some (thNb 77 3 w0.heap.size gr v2 most (iV L))) (hab : ja ≠ jb) (h0a : ja ≠ 0) (h0b : jb ≠ 0) (hL : L.length ≤ 100000) (s : Bool) (n : Int) (x : Int) (str : ByteArray) (stop : Int) :
    Calls Tryz.prog 21 #[.pointer (some ⟨gd, 0, none⟩), .agg #[.int .i64 8, .bool s, .int .i64 n, .int .u64 x, .string str, .int .i64 stop], .int .i64 i] w (DoN w0 Ts 122 (fun L => L) gs gr most ja jb (L)) := by
  have hla := (List.getElem?_eq_some_iff.1 ha).1
  have hlb := (List.getElem?_eq_some_iff.1 hb).1
  have hl0 := (List.getElem?_eq_some_iff.1 hd).1
  obtain ⟨kb, hkb⟩ : ∃ kb, w.heap.size = kb := ⟨_, rfl⟩
  obtain ⟨OP, hOP⟩ : ∃ OP : Array Value, #[.int .i64 8, .bool s, .int .i64 n, .int .u64 x, .string str, .int .i64 stop] = OP := ⟨_, rfl⟩
  have h1 := h.box 31 OP
  rw [hkb] at h1
  obtain ⟨Tx, hTx⟩ : ∃ Tx, Ts ++ [thBox w0.heap.size kb 31 OP] = Tx := ⟨_, rfl⟩
  rw [hTx] at h1
  have ta : Tx[ja]? = some (thSk 122 w0.heap.size gs most v (L)) := by rw [← hTx, List.getElem?_append_left hla]; exact ha
  have tb : Tx[jb]? = some (thNb 77 3 w0.heap.size gr v2 most (iV L)) := by rw [← hTx, List.getElem?_append_left hlb]; exact hb
  have t0 : Tx[0]? = some (thBox w0.heap.size gd 52 cs) := by rw [← hTx, List.getElem?_append_left hl0]; exact hd
  have tx : Tx[Ts.length]? = some (thBox w0.heap.size kb 31 OP) := by rw [← hTx, List.getElem?_append_right (Nat.le_refl _)]; simp
  obtain ⟨wa, hwa⟩ : ∃ wa, wa = w.alloc (.cells OP 31) := ⟨_, rfl⟩
  rw [← hwa] at h1
  have HOP : Hid (∀ Z, Bk Z kb 31 OP → Z.cell? ⟨kb, 0, none⟩ = some (.int .i64 8) ∧ Z.cell? ⟨kb, 2, none⟩ = some (.int .i64 n) ∧ Z.cell? ⟨kb, 5, none⟩ = some (.int .i64 stop)) := fun Z hz => by
    rw [← hOP] at hz
    exact ⟨hz.cell 0, hz.cell 2, hz.cell 5⟩
  have d0 : w.cell? ⟨gd, 2 + i, none⟩ = some (.pointer (some ⟨gs, 0, none⟩)) := by rw [(h.bk hd).cell]; exact hc0
  have d1 : w.cell? ⟨gd, 12 + i, none⟩ = some (.pointer (some ⟨gr, 0, none⟩)) := by rw [(h.bk hd).cell]; exact hc1
  have hgl : gd < w.heap.size := (h.bk hd).lt
  have d0' : wa.cell? ⟨gd, 2 + i, none⟩ = some (.pointer (some ⟨gs, 0, none⟩)) := by rw [(h1.bk t0).cell]; exact hc0
  have d1' : wa.cell? ⟨gd, 12 + i, none⟩ = some (.pointer (some ⟨gr, 0, none⟩)) := by rw [(h1.bk t0).cell]; exact hc1
  try simp only [Nat.zero_add] at d0'
  obtain ⟨e0, e2, e5⟩ := HOP.out wa (h1.bk tx)
  have i0 : (0 : Int) ≤ (i : Int) := by omega
  have i1 : (i : Int) < 2 := by omega
  have HWA := Lib.hid hwa
  have HOPE := Lib.hid hOP
  have HTX := Lib.hid hTx
  have H1 := Lib.hid h1
  have TA := Lib.hid ta
  have TB := Lib.hid tb
  have TX := Lib.hid tx
  have HLA : Hid (ja < Ts.length ∧ jb < Ts.length ∧ ja ≠ jb) := ⟨hla, hlb, hab⟩
  have HB0 := Lib.hid h1.fr.size
  have HC1 := Lib.hid (queue_len w0.heap.size gs most v _ wa (h1.sk_at ta))
  obtain ⟨m, hm⟩ : ∃ m, L.length = m := ⟨_, rfl⟩
  have hm2 : (L).length = m := by simpa using hm
  rw [hm2] at HC1
  have hnb := h1.nb_at tb
  obtain ⟨A, cp, hv2, _, _⟩ := hnb.L.look
  have cr : wa.cell? ⟨gr, 0, none⟩ = some (.slice A m cp) := by
    have := hnb.B.cell 0
    rw [hv2, iV_length, hm] at this
    exact this
  have x1 : (((m : Nat) : Int) == ((m : Nat) : Int)) = true := by simp
  have hkb0 := hkb
  clear h hd hc0 hc1 ha hb hla hlb hl0 hab h0a h0b h1 ta tb t0 tx hOP hTx hwa hm hm2 hnb hv2
  go_enter Tryz.func21, Tryz.ntmps21
  go_upto_region 1 with fail
  rw [HOPE.out, ← HWA.out]
  clear d0 d1
  go_wp2_with fail
  refine (Calls.mono HC1.out ?_)
  rintro en w1 ⟨rfl, rfl⟩
  go_wp2_with fail
  go_ret
  exact DoN.of (Us := [thBox w0.heap.size kb 31 OP]) H1.out (by rw [HTX.out]; exact Chg.refl _ _ _) HLA.out.1 HLA.out.2.1 TA.out TB.out

set_option maxRecDepth 100000 in
set_option maxHeartbeats 1600000 in
theorem d_queue_all {w0 w : World} {Ts : List (Th w0.heap.size)} {gd i gs gr ja jb : Nat} {cs : Array Value} {most : Int} {v v2 : Value} {L : List Int} (hi : i < 2) (h : Sg w0 Ts w) (hd : Ts[0]? = some (thBox w0.heap.size gd 52 cs)) (hc0 : cs[2 + i]? = some (.pointer (some ⟨gs, 0, none⟩))) (hc1 : cs[12 + i]? = some (.pointer (some ⟨gr, 0, none⟩))) (ha : Ts[ja]? = some (thSk 122 w0.heap.size gs most v (L))) (hb : Ts[jb]? = some (thNb 77 3 w0.heap.size gr v2 most (iV L))) (hab : ja ≠ jb) (h0a : ja ≠ 0) (h0b : jb ≠ 0) (hL : L.length ≤ 100000) (s : Bool) (n : Int) (x : Int) (str : ByteArray) (stop : Int) :
    Calls Tryz.prog 21 #[.pointer (some ⟨gd, 0, none⟩), .agg #[.int .i64 9, .bool s, .int .i64 n, .int .u64 x, .string str, .int .i64 stop], .int .i64 i] w (DoN w0 Ts 122 (fun L => L) gs gr most ja jb (L)) := by
  have hla := (List.getElem?_eq_some_iff.1 ha).1
  have hlb := (List.getElem?_eq_some_iff.1 hb).1
  have hl0 := (List.getElem?_eq_some_iff.1 hd).1
  obtain ⟨kb, hkb⟩ : ∃ kb, w.heap.size = kb := ⟨_, rfl⟩
  obtain ⟨OP, hOP⟩ : ∃ OP : Array Value, #[.int .i64 9, .bool s, .int .i64 n, .int .u64 x, .string str, .int .i64 stop] = OP := ⟨_, rfl⟩
  have h1 := h.box 31 OP
  rw [hkb] at h1
  obtain ⟨Tx, hTx⟩ : ∃ Tx, Ts ++ [thBox w0.heap.size kb 31 OP] = Tx := ⟨_, rfl⟩
  rw [hTx] at h1
  have ta : Tx[ja]? = some (thSk 122 w0.heap.size gs most v (L)) := by rw [← hTx, List.getElem?_append_left hla]; exact ha
  have tb : Tx[jb]? = some (thNb 77 3 w0.heap.size gr v2 most (iV L)) := by rw [← hTx, List.getElem?_append_left hlb]; exact hb
  have t0 : Tx[0]? = some (thBox w0.heap.size gd 52 cs) := by rw [← hTx, List.getElem?_append_left hl0]; exact hd
  have tx : Tx[Ts.length]? = some (thBox w0.heap.size kb 31 OP) := by rw [← hTx, List.getElem?_append_right (Nat.le_refl _)]; simp
  obtain ⟨wa, hwa⟩ : ∃ wa, wa = w.alloc (.cells OP 31) := ⟨_, rfl⟩
  rw [← hwa] at h1
  have HOP : Hid (∀ Z, Bk Z kb 31 OP → Z.cell? ⟨kb, 0, none⟩ = some (.int .i64 9) ∧ Z.cell? ⟨kb, 2, none⟩ = some (.int .i64 n) ∧ Z.cell? ⟨kb, 5, none⟩ = some (.int .i64 stop)) := fun Z hz => by
    rw [← hOP] at hz
    exact ⟨hz.cell 0, hz.cell 2, hz.cell 5⟩
  have d0 : w.cell? ⟨gd, 2 + i, none⟩ = some (.pointer (some ⟨gs, 0, none⟩)) := by rw [(h.bk hd).cell]; exact hc0
  have d1 : w.cell? ⟨gd, 12 + i, none⟩ = some (.pointer (some ⟨gr, 0, none⟩)) := by rw [(h.bk hd).cell]; exact hc1
  have hgl : gd < w.heap.size := (h.bk hd).lt
  have d0' : wa.cell? ⟨gd, 2 + i, none⟩ = some (.pointer (some ⟨gs, 0, none⟩)) := by rw [(h1.bk t0).cell]; exact hc0
  have d1' : wa.cell? ⟨gd, 12 + i, none⟩ = some (.pointer (some ⟨gr, 0, none⟩)) := by rw [(h1.bk t0).cell]; exact hc1
  try simp only [Nat.zero_add] at d0'
  obtain ⟨e0, e2, e5⟩ := HOP.out wa (h1.bk tx)
  have i0 : (0 : Int) ≤ (i : Int) := by omega
  have i1 : (i : Int) < 2 := by omega
  have HWA := Lib.hid hwa
  have HOPE := Lib.hid hOP
  have HTX := Lib.hid hTx
  have H1 := Lib.hid h1
  have TA := Lib.hid ta
  have TB := Lib.hid tb
  have TX := Lib.hid tx
  have HLA : Hid (ja < Ts.length ∧ jb < Ts.length ∧ ja ≠ jb) := ⟨hla, hlb, hab⟩
  have HB0 := Lib.hid h1.fr.size
  have HI : Hid (∀ (Z : World) (bm : Nat), Sg w0 Tx Z → Bk Z bm 35 #[.pointer (some ⟨gs, 0, none⟩)] →
      Calls Tryz.prog 35 #[.func (.func 83) #[] #[.pointer (some ⟨bm, 0, none⟩)], .int .i64 stop] Z fun e w' => ∃ A c, e = .returned (.tuple #[.slice A (stopL L stop).length c, .bool true]) ∧ RdI w' A (stopL L stop) ∧ Sg w0 Tx w') := fun Z bm hz hbm => by
    have hq := queue_seq w0.heap.size gs bm most v _ (by omega) Z (hz.sk_at ta) hbm
    refine (ints_any _ _ _ _ stop (by omega) Z hq (enters_of Tryz.func83 (by kernel_rfl) rfl)).mono ?_
    rintro e w' ⟨u, rfl, hl, hf⟩
    obtain ⟨A, c, rfl, _, _⟩ := hl.look
    exact ⟨A, c, rfl, hl.rdi rfl, hz.nil hf⟩
  have HAL : Hid (∀ Z, Sg w0 Tx Z → Calls Tryz.prog 45 #[.pointer (some ⟨gs, 0, none⟩)] Z fun e w' => ∃ bm, e = .returned (.func (.func 83) #[] #[.pointer (some ⟨bm, 0, none⟩)]) ∧ Sg w0 Tx w' ∧ Bk w' bm 35 #[.pointer (some ⟨gs, 0, none⟩)]) := fun Z hz => by
    refine (queue_all gs Z).mono ?_
    rintro e w' ⟨rfl, rfl⟩
    exact ⟨_, rfl, hz.nil ((Fr.refl _ _).alloc _), Bk.new _ _ _⟩
  obtain ⟨m, hm⟩ : ∃ m, L.length = m := ⟨_, rfl⟩
  have HRL : Hid (∀ Z, Sg w0 Tx Z → ∃ A cp, v2 = .slice A m cp ∧ Z.cell? ⟨gr, 0, none⟩ = some (.slice A m cp) ∧ Lst Z w0.heap.size 3 1 (.slice A m cp) m (iV L)) := fun Z hz => by
    have hnb := hz.nb_at tb
    obtain ⟨A, cp, hv2, _, _⟩ := hnb.L.look
    rw [iV_length, hm] at hv2
    have e := hnb.B.cell 0
    have hL := hnb.L
    rw [iV_length, hm, hv2] at hL
    exact ⟨A, cp, hv2, by rw [← hv2]; exact e, hL⟩
  obtain ⟨u, hu⟩ : ∃ u, stopN m stop = u := ⟨_, rfl⟩
  have hum : u ≤ m := by rw [← hu]; exact stopN_le _ _
  have hst : stopL L stop = L.take u := by rw [stopL_len, hm, hu]
  have hsl : (stopL L stop).length = u := by rw [hst, List.length_take]; omega
  obtain ⟨LS, hLS⟩ : ∃ LS, stopL L stop = LS := ⟨_, rfl⟩
  rw [hLS] at hst hsl HI
  rw [hsl] at HI
  have HUP : Hid (∀ Z, Calls Tryz.prog 38 #[.int .i64 m, .int .i64 stop] Z fun e w' => e = .returned (.int .i64 (u : Nat)) ∧ Z = w') := fun Z => by have := upTo_any m stop Z; rw [hu] at this; exact this
  have HST := Lib.hid hst
  have HSL := Lib.hid hsl
  have HSM : Hid (∀ (Z : World) (A B : Option Addr) (c d : Nat), Sg w0 Tx Z → RdI Z A LS → RdI Z B LS → Calls Tryz.prog 37 #[.slice A u c, .slice B u d] Z fun e w' => e = .returned (.bool true) ∧ Sg w0 Tx w') := fun Z A B c d hz hA hB =>
    (same_yes A B LS u c d Z HSL.out.symm hA hB).mono (fun e w' hh => ⟨hh.1, hz.nil hh.2⟩)
  have HK5 : Hid (∀ Z, Sg w0 Tx Z → Z.cell? ⟨kb, 5, none⟩ = some (.int .i64 stop)) := fun Z hz => (HOP.out _ (hz.bk tx)).2.2
  have HD := Lib.hid (h1.nil ((Fr.refl [] wa).drew))
  have hkb0 := hkb
  have HMM := Lib.hid hm
  clear h hd hc0 hc1 ha hb hla hlb hl0 hab h0a h0b h1 ta tb t0 tx hOP hTx hwa hm hu hst hLS hsl
  go_enter Tryz.func21, Tryz.ntmps21
  go_upto_region 1 with fail
  rw [HOPE.out, ← HWA.out]
  clear d0 d1
  go_upto_region 23 with fail
  clear e0 e2 e5 d0' d1'
  go_region_held3 (fun W => W.cell? ⟨kb, 5, none⟩ = some (.int .i64 stop)) ((first | exact HK5.out _ (by assumption) | exact HK5.out _ HD.out))
    ((first | (go_at_call 45; refine (HAL.out _ HD.out).mono ?_; rintro en z1 ⟨bm, rfl, hz1, hb1⟩) | (go_at_call 35; refine (HI.out _ _ hz1 hb1).mono ?_; rintro en z2 ⟨Av, cv, rfl, hr2, hz2⟩)))
  have HZ2 := Lib.hid hz2
  have hz3 := hz2.nil ((Fr.refl [] z2).drew)
  have HZ3 := Lib.hid hz3
  have HR2 := Lib.hid (hr2.fr ((Fr.refl [] z2).drew) (by simp))
  obtain ⟨A, cp, hv2, c0, hL2⟩ := HRL.out _ hz3
  clear c0
  obtain ⟨A9, cp9, hv9, c9, _⟩ := HRL.out _ hz2
  rw [hv2] at hv9
  injection hv9 with hq1 hq2 hq3
  subst hq1 hq3
  have HCR : Hid (∀ Z, Sg w0 Tx Z → Z.cell? ⟨gr, 0, none⟩ = some (.slice A m cp) ∧ Z.cell? ⟨kb, 5, none⟩ = some (.int .i64 stop)) := fun Z hz => by
    obtain ⟨A3, cp3, hv3, c3, _⟩ := HRL.out _ hz
    rw [hv2] at hv3
    injection hv3 with r1 _ r3
    subst r1 r3
    exact ⟨c3, HK5.out _ hz⟩
  have HL2 := Lib.hid hL2
  clear hz2 hz3 hr2 hz1 hb1 hv2 hL2 hq2 c9
  have u0 : (0 : Int) ≤ (u : Int) := by omega
  rcases HL2.out.2 with ⟨hv, h0⟩ | ⟨gb, off, cap, cur, hv, _, _, hnc, hcm, _, _⟩
  · injection hv with r1 r2 r3
    subst r1 r2 r3
    obtain rfl : u = 0 := by omega
    have HB : Hid (RdI z2.drew none LS) := by
      have : LS = [] := by rw [HST.out, List.take_zero]
      rw [this]
      exact RdI.nil _ _
    go_upto_region 24 with fail
    go_region_held3 (fun W => W.cell? ⟨gr, 0, none⟩ = some (.slice none 0 0) ∧ W.cell? ⟨kb, 5, none⟩ = some (.int .i64 stop)) ((first | exact HCR.out _ (by assumption) | exact HCR.out _ HZ3.out))
      ((first | (go_at_call 38; refine (HUP.out _).mono ?_; rintro en z3 ⟨rfl, rfl⟩) | (go_at_call 37; refine (HSM.out _ _ _ _ _ HZ3.out HR2.out HB.out).mono ?_; rintro en z4 ⟨rfl, hz4⟩)))
    have HZ4 := Lib.hid hz4
    clear hz4
    go_wp2_with fail
    go_ret
    exact DoN.of (Us := [thBox w0.heap.size kb 31 OP]) HZ4.out (by rw [HTX.out]; exact Chg.refl _ _ _) HLA.out.1 HLA.out.2.1 TA.out TB.out
  · injection hv with r1 r2 r3
    subst r1 r3
    have HB : Hid (RdI z2.drew (some ⟨gb, off, none⟩) LS) := by
      have hs := HL2.out.shut (k := u) (by omega)
      have e : (iV L).take (u * 1) = iV LS := by rw [HST.out, Nat.mul_one]; unfold iV; rw [List.map_take]
      rw [e] at hs
      exact hs.rdi HSL.out.symm
    have u1 : (u : Int) ≤ (cp : Int) := by omega
    have hcpm : cp ≤ 9223372036854775807 := by unfold maxLen at hcm; omega
    clear r2
    go_upto_region 24 with fail
    go_region_held3 (fun W => W.cell? ⟨gr, 0, none⟩ = some (.slice (some ⟨gb, off, none⟩) m cp) ∧ W.cell? ⟨kb, 5, none⟩ = some (.int .i64 stop)) ((first | exact HCR.out _ (by assumption) | exact HCR.out _ HZ3.out))
      ((first | (go_at_call 38; refine (HUP.out _).mono ?_; rintro en z3 ⟨rfl, rfl⟩) | (go_at_call 37; refine (HSM.out _ _ _ _ _ HZ3.out HR2.out HB.out).mono ?_; rintro en z4 ⟨rfl, hz4⟩)))
    have HZ4 := Lib.hid hz4
    clear hz4
    go_wp2_with fail
    go_ret
    exact DoN.of (Us := [thBox w0.heap.size kb 31 OP]) HZ4.out (by rw [HTX.out]; exact Chg.refl _ _ _) HLA.out.1 HLA.out.2.1 TA.out TB.out

end Go.Proofs.YtdjaalkbpdmdgaaGreat
