/-
  Bag: queues of texts: the calls of the desk, a step of a script on them; BagTexts.
-/
import Derived.Test.YtdjaalkbpdmdgaaGreatBgX1
import Derived.Test.YtdjaalkbpdmdgaaGreatBgT6
import Derived.Laws.Concat
import Derived.Deep.CutRange
import Derived.Test.YtdjaalkbpdmdgaaGreatBgT12
namespace Go.Proofs.YtdjaalkbpdmdgaaGreat
open Go.RowKit
set_option linter.unusedVariables false
/-- What a call of the desk leaves: a container and the document's list, both turned alike. -/
def DoX (w0 : World) (Ts : List (Th w0.heap.size)) (t : TypeId) (gs gr : Nat) (most : Int) (ja jb : Nat) (L : List ByteArray) (e : Ending) (w' : World) : Prop :=
  e = .returned (.bool true) ∧ ∃ Ts' v v2, Sg w0 Ts' w' ∧ Chg Ts Ts' ja jb ∧ Ts'[ja]? = some (thSx t w0.heap.size gs most v L) ∧ Ts'[jb]? = some (thNb 79 9 w0.heap.size gr v2 most (sV L))
theorem DoX.of {w0 w' : World} {Ts : List (Th w0.heap.size)} {t : TypeId} {gs gr : Nat} {most : Int} {ja jb : Nat} {L : List ByteArray} {Us Tx : List (Th w0.heap.size)} {v v2 : Value} (hx : Sg w0 Tx w') (hc : Chg (Ts ++ Us) Tx ja jb) (ha : ja < Ts.length) (hb : jb < Ts.length)
    (h1 : Tx[ja]? = some (thSx t w0.heap.size gs most v L)) (h2 : Tx[jb]? = some (thNb 79 9 w0.heap.size gr v2 most (sV L))) : DoX w0 Ts t gs gr most ja jb L (.returned (.bool true)) w' := by
  refine ⟨rfl, Tx.take Ts.length, v, v2, hx.take _, hc.cut ha hb, ?_, ?_⟩
  · rw [List.getElem?_take, if_pos ha]; exact h1
  · rw [List.getElem?_take, if_pos hb]; exact h2

set_option maxRecDepth 100000 in
set_option maxHeartbeats 1600000 in
theorem d_text_add {w0 w : World} {Ts : List (Th w0.heap.size)} {gd i gs gr ja jb : Nat} {cs : Array Value} {most : Int} {v v2 : Value} {L : List ByteArray} (hi : i < 2) (h : Sg w0 Ts w) (hd : Ts[0]? = some (thBox w0.heap.size gd 52 cs)) (hc0 : cs[4 + i]? = some (.pointer (some ⟨gs, 0, none⟩))) (hc1 : cs[14 + i]? = some (.pointer (some ⟨gr, 0, none⟩))) (ha : Ts[ja]? = some (thSx 124 w0.heap.size gs most v (L))) (hb : Ts[jb]? = some (thNb 79 9 w0.heap.size gr v2 most (sV L))) (hab : ja ≠ jb) (h0a : ja ≠ 0) (h0b : jb ≠ 0) (hL : L.length ≤ 100000) (s : Bool) (n : Int) (x : Int) (str : ByteArray) (stop : Int) :
    Calls Tryz.prog 22 #[.pointer (some ⟨gd, 0, none⟩), .agg #[.int .i64 10, .bool s, .int .i64 n, .int .u64 x, .string str, .int .i64 stop], .int .i64 i] w (DoX w0 Ts 124 gs gr most ja jb (addX most L str)) := by
  have hla := (List.getElem?_eq_some_iff.1 ha).1
  have hlb := (List.getElem?_eq_some_iff.1 hb).1
  have hl0 := (List.getElem?_eq_some_iff.1 hd).1
  obtain ⟨kb, hkb⟩ : ∃ kb, w.heap.size = kb := ⟨_, rfl⟩
  obtain ⟨OP, hOP⟩ : ∃ OP : Array Value, #[.int .i64 10, .bool s, .int .i64 n, .int .u64 x, .string str, .int .i64 stop] = OP := ⟨_, rfl⟩
  have h1 := h.box 31 OP
  rw [hkb] at h1
  obtain ⟨Tx, hTx⟩ : ∃ Tx, Ts ++ [thBox w0.heap.size kb 31 OP] = Tx := ⟨_, rfl⟩
  rw [hTx] at h1
  have ta : Tx[ja]? = some (thSx 124 w0.heap.size gs most v (L)) := by rw [← hTx, List.getElem?_append_left hla]; exact ha
  have tb : Tx[jb]? = some (thNb 79 9 w0.heap.size gr v2 most (sV L)) := by rw [← hTx, List.getElem?_append_left hlb]; exact hb
  have t0 : Tx[0]? = some (thBox w0.heap.size gd 52 cs) := by rw [← hTx, List.getElem?_append_left hl0]; exact hd
  have tx : Tx[Ts.length]? = some (thBox w0.heap.size kb 31 OP) := by rw [← hTx, List.getElem?_append_right (Nat.le_refl _)]; simp
  obtain ⟨wa, hwa⟩ : ∃ wa, wa = w.alloc (.cells OP 31) := ⟨_, rfl⟩
  rw [← hwa] at h1
  have HOP : Hid (∀ Z, Bk Z kb 31 OP → Z.cell? ⟨kb, 0, none⟩ = some (.int .i64 10) ∧ Z.cell? ⟨kb, 4, none⟩ = some (.string str) ∧ Z.cell? ⟨kb, 5, none⟩ = some (.int .i64 stop)) := fun Z hz => by
    rw [← hOP] at hz
    exact ⟨hz.cell 0, hz.cell 4, hz.cell 5⟩
  have d0 : w.cell? ⟨gd, 4 + i, none⟩ = some (.pointer (some ⟨gs, 0, none⟩)) := by rw [(h.bk hd).cell]; exact hc0
  have d1 : w.cell? ⟨gd, 14 + i, none⟩ = some (.pointer (some ⟨gr, 0, none⟩)) := by rw [(h.bk hd).cell]; exact hc1
  have hgl : gd < w.heap.size := (h.bk hd).lt
  have d0' : wa.cell? ⟨gd, 4 + i, none⟩ = some (.pointer (some ⟨gs, 0, none⟩)) := by rw [(h1.bk t0).cell]; exact hc0
  have d1' : wa.cell? ⟨gd, 14 + i, none⟩ = some (.pointer (some ⟨gr, 0, none⟩)) := by rw [(h1.bk t0).cell]; exact hc1
  try simp only [Nat.zero_add] at d0'
  obtain ⟨e0, e2, e5⟩ := HOP.out wa (h1.bk tx)
  have i0 : (0 : Int) ≤ (i : Int) := by omega
  have i1 : (i : Int) < 2 := by omega
  have HWA := Lib.hid hwa
  have HOPE := Lib.hid hOP
  have HTX := Lib.hid hTx
  have H1 := Lib.hid h1
  have TA := Lib.hid ta
  have TB := Lib.hid tb
  have TX := Lib.hid tx
  have HLA : Hid (ja < Ts.length ∧ jb < Ts.length ∧ ja ≠ jb) := ⟨hla, hlb, hab⟩
  have HB0 := Lib.hid h1.fr.size
  have HC1 := Lib.hid (txt_add w0.heap.size gs most v L str wa (h1.sx_at ta) (by omega) h1.fr.size)
  obtain ⟨E, hE⟩ : ∃ E, addXE most L = E := ⟨_, rfl⟩
  obtain ⟨L2, hL2⟩ : ∃ L2, addX most L str = L2 := ⟨_, rfl⟩
  have HRP : Hid (∀ Z v2, Nb 79 9 w0.heap.size Z gr v2 most (sV L) → w0.heap.size ≤ Z.heap.size → Calls Tryz.prog 47 #[.pointer (some ⟨gr, 0, none⟩), .string str] Z (NbTo 79 9 w0.heap.size gr v2 most (sV L2) (.int .i64 E) Z)) := fun Z v2 hz hzs => by
    rw [← hL2, ← hE]
    exact rputT w0.heap.size gr v2 most L str Z hz (by omega) hzs
  rw [hE, hL2] at HC1
  have x1 : (E == E) = true := by simp
  have hkb0 := hkb
  rw [hL2]
  clear h hd hc0 hc1 ha hb hla hlb hl0 hab h0a h0b h1 ta tb t0 tx hOP hTx hwa hE hL2
  go_enter Tryz.func22, Tryz.ntmps22
  go_upto_region 1 with fail
  rw [HOPE.out, ← HWA.out]
  clear d0 d1
  go_wp2_with fail
  refine (Calls.mono HC1.out ?_)
  rintro en w1 ho
  obtain ⟨rfl, v', h2⟩ := H1.out.sx TA.out ho
  obtain ⟨Ty, hTy⟩ : ∃ Ty, Tx.set ja (thSx 124 w0.heap.size gs most v' (L2)) = Ty := ⟨_, rfl⟩
  rw [hTy] at h2
  have tb2 : Ty[jb]? = some (thNb 79 9 w0.heap.size gr v2 most (sV L)) := by rw [← hTy, List.getElem?_set_ne HLA.out.2.2]; exact TB.out
  have tx2 : Ty[Ts.length]? = some (thBox w0.heap.size kb 31 OP) := by rw [← hTy, List.getElem?_set_ne (by have := HLA.out.1; omega)]; exact TX.out
  have h3 := h2.nil ((Fr.refl [] w1).drew)
  have H3 := Lib.hid h3
  have HC2 := Lib.hid (HRP.out _ _ (h3.nb_at tb2) h3.fr.size)
  have HTY := Lib.hid hTy
  have TB2 := Lib.hid tb2
  have TX2 := Lib.hid tx2
  have HK1 : Hid (w1.drew.cell? ⟨kb, 4, none⟩ = some (.string str)) := (HOP.out _ (h3.bk tx2)).2.1
  have HK2 : Hid (∀ Z v3, Sg w0 (Ty.set jb (thNb 79 9 w0.heap.size gr v3 most (sV L2))) Z → Z.cell? ⟨kb, 4, none⟩ = some (.string str)) := fun Z v3 hz =>
    (HOP.out _ (hz.bk (i := Ts.length) (by rw [List.getElem?_set_ne (by have := HLA.out.2.1; omega)]; exact TX2.out))).2.1
  clear ho h2 hTy tb2 tx2 h3 e0 e2 e5 d0' d1'
  go_upto_region 6 with fail
  go_region_held3 (fun W => W.cell? ⟨kb, 4, none⟩ = some (.string str)) ((first | exact HK2.out _ _ (by assumption) | exact HK1.out))
    ((first | (go_at_call 16; refine (num_any _ _).mono ?_; rintro en z0 ⟨rfl, rfl⟩) | (go_at_call 47; refine (Calls.mono HC2.out ?_); rintro en z ho; obtain ⟨rfl, v3, h4⟩ := H3.out.nb TB2.out ho)))
  have H4 := Lib.hid h4
  clear h4 ho
  go_wp2_with fail
  go_ret
  refine DoX.of (Us := [thBox w0.heap.size kb 31 OP]) H4.out ?_ HLA.out.1 HLA.out.2.1 (v := v') (v2 := v3) ?_ ?_
  · rw [← HTY.out, HTX.out]
    exact ((Chg.refl _ _ _).set1 _).set2 _
  · rw [List.getElem?_set_ne (Ne.symm HLA.out.2.2), ← HTY.out, List.getElem?_set_self (by rw [← HTX.out, List.length_append]; have := HLA.out.1; omega)]
  · rw [List.getElem?_set_self (by rw [← HTY.out, List.length_set, ← HTX.out, List.length_append]; have := HLA.out.2.1; omega)]

set_option maxRecDepth 100000 in
set_option maxHeartbeats 1600000 in
theorem d_text_take {w0 w : World} {Ts : List (Th w0.heap.size)} {gd i gs gr ja jb : Nat} {cs : Array Value} {most : Int} {v v2 : Value} {L : List ByteArray} (hi : i < 2) (h : Sg w0 Ts w) (hd : Ts[0]? = some (thBox w0.heap.size gd 52 cs)) (hc0 : cs[4 + i]? = some (.pointer (some ⟨gs, 0, none⟩))) (hc1 : cs[14 + i]? = some (.pointer (some ⟨gr, 0, none⟩))) (ha : Ts[ja]? = some (thSx 124 w0.heap.size gs most v (L))) (hb : Ts[jb]? = some (thNb 79 9 w0.heap.size gr v2 most (sV L))) (hab : ja ≠ jb) (h0a : ja ≠ 0) (h0b : jb ≠ 0) (hL : L.length ≤ 100000) (s : Bool) (n : Int) (x : Int) (str : ByteArray) (stop : Int) :
    Calls Tryz.prog 22 #[.pointer (some ⟨gd, 0, none⟩), .agg #[.int .i64 11, .bool s, .int .i64 n, .int .u64 x, .string str, .int .i64 stop], .int .i64 i] w (DoX w0 Ts 124 gs gr most ja jb (L.tail)) := by
  have hla := (List.getElem?_eq_some_iff.1 ha).1
  have hlb := (List.getElem?_eq_some_iff.1 hb).1
  have hl0 := (List.getElem?_eq_some_iff.1 hd).1
  obtain ⟨kb, hkb⟩ : ∃ kb, w.heap.size = kb := ⟨_, rfl⟩
  obtain ⟨OP, hOP⟩ : ∃ OP : Array Value, #[.int .i64 11, .bool s, .int .i64 n, .int .u64 x, .string str, .int .i64 stop] = OP := ⟨_, rfl⟩
  have h1 := h.box 31 OP
  rw [hkb] at h1
  obtain ⟨Tx, hTx⟩ : ∃ Tx, Ts ++ [thBox w0.heap.size kb 31 OP] = Tx := ⟨_, rfl⟩
  rw [hTx] at h1
  have ta : Tx[ja]? = some (thSx 124 w0.heap.size gs most v (L)) := by rw [← hTx, List.getElem?_append_left hla]; exact ha
  have tb : Tx[jb]? = some (thNb 79 9 w0.heap.size gr v2 most (sV L)) := by rw [← hTx, List.getElem?_append_left hlb]; exact hb
  have t0 : Tx[0]? = some (thBox w0.heap.size gd 52 cs) := by rw [← hTx, List.getElem?_append_left hl0]; exact hd
  have tx : Tx[Ts.length]? = some (thBox w0.heap.size kb 31 OP) := by rw [← hTx, List.getElem?_append_right (Nat.le_refl _)]; simp
  obtain ⟨wa, hwa⟩ : ∃ wa, wa = w.alloc (.cells OP 31) := ⟨_, rfl⟩
  rw [← hwa] at h1
  have HOP : Hid (∀ Z, Bk Z kb 31 OP → Z.cell? ⟨kb, 0, none⟩ = some (.int .i64 11) ∧ Z.cell? ⟨kb, 4, none⟩ = some (.string str) ∧ Z.cell? ⟨kb, 5, none⟩ = some (.int .i64 stop)) := fun Z hz => by
    rw [← hOP] at hz
    exact ⟨hz.cell 0, hz.cell 4, hz.cell 5⟩
  have d0 : w.cell? ⟨gd, 4 + i, none⟩ = some (.pointer (some ⟨gs, 0, none⟩)) := by rw [(h.bk hd).cell]; exact hc0
  have d1 : w.cell? ⟨gd, 14 + i, none⟩ = some (.pointer (some ⟨gr, 0, none⟩)) := by rw [(h.bk hd).cell]; exact hc1
  have hgl : gd < w.heap.size := (h.bk hd).lt
  have d0' : wa.cell? ⟨gd, 4 + i, none⟩ = some (.pointer (some ⟨gs, 0, none⟩)) := by rw [(h1.bk t0).cell]; exact hc0
  have d1' : wa.cell? ⟨gd, 14 + i, none⟩ = some (.pointer (some ⟨gr, 0, none⟩)) := by rw [(h1.bk t0).cell]; exact hc1
  try simp only [Nat.zero_add] at d0'
  obtain ⟨e0, e2, e5⟩ := HOP.out wa (h1.bk tx)
  have i0 : (0 : Int) ≤ (i : Int) := by omega
  have i1 : (i : Int) < 2 := by omega
  have HWA := Lib.hid hwa
  have HOPE := Lib.hid hOP
  have HTX := Lib.hid hTx
  have H1 := Lib.hid h1
  have TA := Lib.hid ta
  have TB := Lib.hid tb
  have TX := Lib.hid tx
  have HLA : Hid (ja < Ts.length ∧ jb < Ts.length ∧ ja ≠ jb) := ⟨hla, hlb, hab⟩
  have HB0 := Lib.hid h1.fr.size
  have HC1 := Lib.hid (txt_take w0.heap.size gs most v L wa (h1.sx_at ta))
  obtain ⟨X, hX⟩ : ∃ X, popXX L = X := ⟨_, rfl⟩
  obtain ⟨B, hB⟩ : ∃ B, popXB L = B := ⟨_, rfl⟩
  obtain ⟨L2, hL2⟩ : ∃ L2, L.tail = L2 := ⟨_, rfl⟩
  have HRP : Hid (∀ Z v2, Nb 79 9 w0.heap.size Z gr v2 most (sV L) → w0.heap.size ≤ Z.heap.size → Calls Tryz.prog 49 #[.pointer (some ⟨gr, 0, none⟩)] Z (NbTo 79 9 w0.heap.size gr v2 most (sV L2) (.tuple #[.string X, .bool B]) Z)) := fun Z v2 hz hzs => by
    rw [← hL2, ← hX, ← hB]
    exact rtakeX w0.heap.size gr v2 most L Z hz (by omega) hzs
  rw [hX, hB, hL2] at HC1
  have x1 : (X.toList == X.toList) = true := by simp
  have x2 : (B == B) = true := by simp
  have hkb0 := hkb
  rw [hL2]
  clear h hd hc0 hc1 ha hb hla hlb hl0 hab h0a h0b h1 ta tb t0 tx hOP hTx hwa hX hB hL2
  go_enter Tryz.func22, Tryz.ntmps22
  go_upto_region 1 with fail
  rw [HOPE.out, ← HWA.out]
  clear d0 d1
  go_wp2_with fail
  refine (Calls.mono HC1.out ?_)
  rintro en w1 ho
  obtain ⟨rfl, v', h2⟩ := H1.out.sx TA.out ho
  obtain ⟨Ty, hTy⟩ : ∃ Ty, Tx.set ja (thSx 124 w0.heap.size gs most v' (L2)) = Ty := ⟨_, rfl⟩
  rw [hTy] at h2
  have tb2 : Ty[jb]? = some (thNb 79 9 w0.heap.size gr v2 most (sV L)) := by rw [← hTy, List.getElem?_set_ne HLA.out.2.2]; exact TB.out
  have H3 := Lib.hid h2
  have HC2 := Lib.hid (HRP.out _ _ (h2.nb_at tb2) h2.fr.size)
  have HTY := Lib.hid hTy
  have TB2 := Lib.hid tb2
  clear ho h2 hTy tb2 e0 e2 e5 d0' d1'
  go_wp2_with fail
  refine (Calls.mono HC2.out ?_)
  rintro en z ho
  obtain ⟨rfl, v3, h4⟩ := H3.out.nb TB2.out ho
  have H4 := Lib.hid h4
  clear h4 ho
  go_wp2_with fail
  go_ret
  refine DoX.of (Us := [thBox w0.heap.size kb 31 OP]) H4.out ?_ HLA.out.1 HLA.out.2.1 (v := v') (v2 := v3) ?_ ?_
  · rw [← HTY.out, HTX.out]
    exact ((Chg.refl _ _ _).set1 _).set2 _
  · rw [List.getElem?_set_ne (Ne.symm HLA.out.2.2), ← HTY.out, List.getElem?_set_self (by rw [← HTX.out, List.length_append]; have := HLA.out.1; omega)]
  · rw [List.getElem?_set_self (by rw [← HTY.out, List.length_set, ← HTX.out, List.length_append]; have := HLA.out.2.1; omega)]

set_option maxRecDepth 100000 in
set_option maxHeartbeats 1600000 in
theorem d_text_len {w0 w : World} {Ts : List (Th w0.heap.size)} {gd i gs gr ja jb : Nat} {cs : Array Value} {most : Int} {v v2 : Value} {L : List ByteArray} (hi : i < 2) (h : Sg w0 Ts w) (hd : Ts[0]? = some (thBox w0.heap.size gd 52 cs)) (hc0 : cs[4 + i]? = some (.pointer (some ⟨gs, 0, none⟩))) (hc1 : cs[14 + i]? = some (.pointer (some ⟨gr, 0, none⟩))) (ha : Ts[ja]? = some (thSx 124 w0.heap.size gs most v (L))) (hb : Ts[jb]? = some (thNb 79 9 w0.heap.size gr v2 most (sV L))) (hab : ja ≠ jb) (h0a : ja ≠ 0) (h0b : jb ≠ 0) (hL : L.length ≤ 100000) (s : Bool) (n : Int) (x : Int) (str : ByteArray) (stop : Int) :
    Calls Tryz.prog 22 #[.pointer (some ⟨gd, 0, none⟩), .agg #[.int .i64 13, .bool s, .int .i64 n, .int .u64 x, .string str, .int .i64 stop], .int .i64 i] w (DoX w0 Ts 124 gs gr most ja jb (L)) := by
  have hla := (List.getElem?_eq_some_iff.1 ha).1
  have hlb := (List.getElem?_eq_some_iff.1 hb).1
  have hl0 := (List.getElem?_eq_some_iff.1 hd).1
  obtain ⟨kb, hkb⟩ : ∃ kb, w.heap.size = kb := ⟨_, rfl⟩
  obtain ⟨OP, hOP⟩ : ∃ OP : Array Value, #[.int .i64 13, .bool s, .int .i64 n, .int .u64 x, .string str, .int .i64 stop] = OP := ⟨_, rfl⟩
  have h1 := h.box 31 OP
  rw [hkb] at h1
  obtain ⟨Tx, hTx⟩ : ∃ Tx, Ts ++ [thBox w0.heap.size kb 31 OP] = Tx := ⟨_, rfl⟩
  rw [hTx] at h1
  have ta : Tx[ja]? = some (thSx 124 w0.heap.size gs most v (L)) := by rw [← hTx, List.getElem?_append_left hla]; exact ha
  have tb : Tx[jb]? = some (thNb 79 9 w0.heap.size gr v2 most (sV L)) := by rw [← hTx, List.getElem?_append_left hlb]; exact hb
  have t0 : Tx[0]? = some (thBox w0.heap.size gd 52 cs) := by rw [← hTx, List.getElem?_append_left hl0]; exact hd
  have tx : Tx[Ts.length]? = some (thBox w0.heap.size kb 31 OP) := by rw [← hTx, List.getElem?_append_right (Nat.le_refl _)]; simp
  obtain ⟨wa, hwa⟩ : ∃ wa, wa = w.alloc (.cells OP 31) := ⟨_, rfl⟩
  rw [← hwa] at h1
  have HOP : Hid (∀ Z, Bk Z kb 31 OP → Z.cell? ⟨kb, 0, none⟩ = some (.int .i64 13) ∧ Z.cell? ⟨kb, 4, none⟩ = some (.string str) ∧ Z.cell? ⟨kb, 5, none⟩ = some (.int .i64 stop)) := fun Z hz => by
    rw [← hOP] at hz
    exact ⟨hz.cell 0, hz.cell 4, hz.cell 5⟩
  have d0 : w.cell? ⟨gd, 4 + i, none⟩ = some (.pointer (some ⟨gs, 0, none⟩)) := by rw [(h.bk hd).cell]; exact hc0
  have d1 : w.cell? ⟨gd, 14 + i, none⟩ = some (.pointer (some ⟨gr, 0, none⟩)) := by rw [(h.bk hd).cell]; exact hc1
  have hgl : gd < w.heap.size := (h.bk hd).lt
  have d0' : wa.cell? ⟨gd, 4 + i, none⟩ = some (.pointer (some ⟨gs, 0, none⟩)) := by rw [(h1.bk t0).cell]; exact hc0
  have d1' : wa.cell? ⟨gd, 14 + i, none⟩ = some (.pointer (some ⟨gr, 0, none⟩)) := by rw [(h1.bk t0).cell]; exact hc1
  try simp only [Nat.zero_add] at d0'
  obtain ⟨e0, e2, e5⟩ := HOP.out wa (h1.bk tx)
  have i0 : (0 : Int) ≤ (i : Int) := by omega
  have i1 : (i : Int) < 2 := by omega
  have HWA := Lib.hid hwa
  have HOPE := Lib.hid hOP
  have HTX := Lib.hid hTx
  have H1 := Lib.hid h1
  have TA := Lib.hid ta
  have TB := Lib.hid tb
  have TX := Lib.hid tx
  have HLA : Hid (ja < Ts.length ∧ jb < Ts.length ∧ ja ≠ jb) := ⟨hla, hlb, hab⟩
  have HB0 := Lib.hid h1.fr.size
  have HC1 := Lib.hid (text_len w0.heap.size gs most v _ wa (h1.sx_at ta))
  obtain ⟨m, hm⟩ : ∃ m, L.length = m := ⟨_, rfl⟩
  have hm2 : (L).length = m := by simpa using hm
  rw [hm2] at HC1
  have hnb := h1.nb_at tb
  obtain ⟨A, cp, hv2, _, _⟩ := hnb.L.look
  have cr : wa.cell? ⟨gr, 0, none⟩ = some (.slice A m cp) := by
    have := hnb.B.cell 0
    rw [hv2, sV_length, hm] at this
    exact this
  have x1 : (((m : Nat) : Int) == ((m : Nat) : Int)) = true := by simp
  have hkb0 := hkb
  clear h hd hc0 hc1 ha hb hla hlb hl0 hab h0a h0b h1 ta tb t0 tx hOP hTx hwa hm hm2 hnb hv2
  go_enter Tryz.func22, Tryz.ntmps22
  go_upto_region 1 with fail
  rw [HOPE.out, ← HWA.out]
  clear d0 d1
  go_wp2_with fail
  refine (Calls.mono HC1.out ?_)
  rintro en w1 ⟨rfl, rfl⟩
  go_wp2_with fail
  go_ret
  exact DoX.of (Us := [thBox w0.heap.size kb 31 OP]) H1.out (by rw [HTX.out]; exact Chg.refl _ _ _) HLA.out.1 HLA.out.2.1 TA.out TB.out

set_option maxRecDepth 100000 in
set_option maxHeartbeats 1600000 in
theorem d_text_all {w0 w : World} {Ts : List (Th w0.heap.size)} {gd i gs gr ja jb : Nat} {cs : Array Value} {most : Int} {v v2 : Value} {L : List ByteArray} (hi : i < 2) (h : Sg w0 Ts w) (hd : Ts[0]? = some (thBox w0.heap.size gd 52 cs)) (hc0 : cs[4 + i]? = some (.pointer (some ⟨gs, 0, none⟩))) (hc1 : cs[14 + i]? = some (.pointer (some ⟨gr, 0, none⟩))) (ha : Ts[ja]? = some (thSx 124 w0.heap.size gs most v (L))) (hb : Ts[jb]? = some (thNb 79 9 w0.heap.size gr v2 most (sV L))) (hab : ja ≠ jb) (h0a : ja ≠ 0) (h0b : jb ≠ 0) (hL : L.length ≤ 100000) (s : Bool) (n : Int) (x : Int) (str : ByteArray) (stop : Int) :
    Calls Tryz.prog 22 #[.pointer (some ⟨gd, 0, none⟩), .agg #[.int .i64 14, .bool s, .int .i64 n, .int .u64 x, .string str, .int .i64 stop], .int .i64 i] w (DoX w0 Ts 124 gs gr most ja jb (L)) := by
  have hla := (List.getElem?_eq_some_iff.1 ha).1
  have hlb := (List.getElem?_eq_some_iff.1 hb).1
  have hl0 := (List.getElem?_eq_some_iff.1 hd).1
  obtain ⟨kb, hkb⟩ : ∃ kb, w.heap.size = kb := ⟨_, rfl⟩
  obtain ⟨OP, hOP⟩ : ∃ OP : Array Value, #[.int .i64 14, .bool s, .int .i64 n, .int .u64 x, .string str, .int .i64 stop] = OP := ⟨_, rfl⟩
  have h1 := h.box 31 OP
  rw [hkb] at h1
  obtain ⟨Tx, hTx⟩ : ∃ Tx, Ts ++ [thBox w0.heap.size kb 31 OP] = Tx := ⟨_, rfl⟩
  rw [hTx] at h1
  have ta : Tx[ja]? = some (thSx 124 w0.heap.size gs most v (L)) := by rw [← hTx, List.getElem?_append_left hla]; exact ha
  have tb : Tx[jb]? = some (thNb 79 9 w0.heap.size gr v2 most (sV L)) := by rw [← hTx, List.getElem?_append_left hlb]; exact hb
  have t0 : Tx[0]? = some (thBox w0.heap.size gd 52 cs) := by rw [← hTx, List.getElem?_append_left hl0]; exact hd
  have tx : Tx[Ts.length]? = some (thBox w0.heap.size kb 31 OP) := by rw [← hTx, List.getElem?_append_right (Nat.le_refl _)]; simp
  obtain ⟨wa, hwa⟩ : ∃ wa, wa = w.alloc (.cells OP 31) := ⟨_, rfl⟩
  rw [← hwa] at h1
  have HOP : Hid (∀ Z, Bk Z kb 31 OP → Z.cell? ⟨kb, 0, none⟩ = some (.int .i64 14) ∧ Z.cell? ⟨kb, 4, none⟩ = some (.string str) ∧ Z.cell? ⟨kb, 5, none⟩ = some (.int .i64 stop)) := fun Z hz => by
    rw [← hOP] at hz
    exact ⟨hz.cell 0, hz.cell 4, hz.cell 5⟩
  have d0 : w.cell? ⟨gd, 4 + i, none⟩ = some (.pointer (some ⟨gs, 0, none⟩)) := by rw [(h.bk hd).cell]; exact hc0
  have d1 : w.cell? ⟨gd, 14 + i, none⟩ = some (.pointer (some ⟨gr, 0, none⟩)) := by rw [(h.bk hd).cell]; exact hc1
  have hgl : gd < w.heap.size := (h.bk hd).lt
  have d0' : wa.cell? ⟨gd, 4 + i, none⟩ = some (.pointer (some ⟨gs, 0, none⟩)) := by rw [(h1.bk t0).cell]; exact hc0
  have d1' : wa.cell? ⟨gd, 14 + i, none⟩ = some (.pointer (some ⟨gr, 0, none⟩)) := by rw [(h1.bk t0).cell]; exact hc1
  try simp only [Nat.zero_add] at d0'
  obtain ⟨e0, e2, e5⟩ := HOP.out wa (h1.bk tx)
  have i0 : (0 : Int) ≤ (i : Int) := by omega
  have i1 : (i : Int) < 2 := by omega
  have HWA := Lib.hid hwa
  have HOPE := Lib.hid hOP
  have HTX := Lib.hid hTx
  have H1 := Lib.hid h1
  have TA := Lib.hid ta
  have TB := Lib.hid tb
  have TX := Lib.hid tx
  have HLA : Hid (ja < Ts.length ∧ jb < Ts.length ∧ ja ≠ jb) := ⟨hla, hlb, hab⟩
  have HB0 := Lib.hid h1.fr.size
  have HI : Hid (∀ (Z : World) (bm : Nat), Sg w0 Tx Z → Bk Z bm 37 #[.pointer (some ⟨gs, 0, none⟩)] →
      Calls Tryz.prog 54 #[.func (.func 86) #[] #[.pointer (some ⟨bm, 0, none⟩)], .int .i64 stop] Z fun e w' => ∃ A c, e = .returned (.tuple #[.slice A (stopL L stop).length c, .bool true]) ∧ RdS w' A (stopL L stop) ∧ Sg w0 Tx w') := fun Z bm hz hbm => by
    have hq := text_seq w0.heap.size gs bm most v _ (by omega) Z (hz.sx_at ta) hbm
    refine (strings_any _ _ _ _ stop (by omega) Z hq (enters_of Tryz.func86 (by kernel_rfl) rfl)).mono ?_
    rintro e w' ⟨u, rfl, hl, hf⟩
    obtain ⟨A, c, rfl, _, _⟩ := hl.look
    exact ⟨A, c, rfl, hl.rds rfl, hz.nil hf⟩
  have HAL : Hid (∀ Z, Sg w0 Tx Z → Calls Tryz.prog 55 #[.pointer (some ⟨gs, 0, none⟩)] Z fun e w' => ∃ bm, e = .returned (.func (.func 86) #[] #[.pointer (some ⟨bm, 0, none⟩)]) ∧ Sg w0 Tx w' ∧ Bk w' bm 37 #[.pointer (some ⟨gs, 0, none⟩)]) := fun Z hz => by
    refine (text_all gs Z).mono ?_
    rintro e w' ⟨rfl, rfl⟩
    exact ⟨_, rfl, hz.nil ((Fr.refl _ _).alloc _), Bk.new _ _ _⟩
  obtain ⟨m, hm⟩ : ∃ m, L.length = m := ⟨_, rfl⟩
  have HRL : Hid (∀ Z, Sg w0 Tx Z → ∃ A cp, v2 = .slice A m cp ∧ Z.cell? ⟨gr, 0, none⟩ = some (.slice A m cp) ∧ Lst Z w0.heap.size 9 1 (.slice A m cp) m (sV L)) := fun Z hz => by
    have hnb := hz.nb_at tb
    obtain ⟨A, cp, hv2, _, _⟩ := hnb.L.look
    rw [sV_length, hm] at hv2
    have e := hnb.B.cell 0
    have hL := hnb.L
    rw [sV_length, hm, hv2] at hL
    exact ⟨A, cp, hv2, by rw [← hv2]; exact e, hL⟩
  obtain ⟨u, hu⟩ : ∃ u, stopN m stop = u := ⟨_, rfl⟩
  have hum : u ≤ m := by rw [← hu]; exact stopN_le _ _
  have hst : stopL L stop = L.take u := by rw [stopL_len, hm, hu]
  have hsl : (stopL L stop).length = u := by rw [hst, List.length_take]; omega
  obtain ⟨LS, hLS⟩ : ∃ LS, stopL L stop = LS := ⟨_, rfl⟩
  rw [hLS] at hst hsl HI
  rw [hsl] at HI
  have HUP : Hid (∀ Z, Calls Tryz.prog 38 #[.int .i64 m, .int .i64 stop] Z fun e w' => e = .returned (.int .i64 (u : Nat)) ∧ Z = w') := fun Z => by have := upTo_any m stop Z; rw [hu] at this; exact this
  have HST := Lib.hid hst
  have HSL := Lib.hid hsl
  have HSM : Hid (∀ (Z : World) (A B : Option Addr) (c d : Nat), Sg w0 Tx Z → RdS Z A LS → RdS Z B LS → Calls Tryz.prog 52 #[.slice A u c, .slice B u d] Z fun e w' => e = .returned (.bool true) ∧ Sg w0 Tx w') := fun Z A B c d hz hA hB =>
    (sameX_yes A B LS u c d Z HSL.out.symm hA hB).mono (fun e w' hh => ⟨hh.1, hz.nil hh.2⟩)
  have HK5 : Hid (∀ Z, Sg w0 Tx Z → Z.cell? ⟨kb, 5, none⟩ = some (.int .i64 stop)) := fun Z hz => (HOP.out _ (hz.bk tx)).2.2
  have HD := Lib.hid (h1.nil ((Fr.refl [] wa).drew))
  have hkb0 := hkb
  have HMM := Lib.hid hm
  clear h hd hc0 hc1 ha hb hla hlb hl0 hab h0a h0b h1 ta tb t0 tx hOP hTx hwa hm hu hst hLS hsl
  go_enter Tryz.func22, Tryz.ntmps22
  go_upto_region 1 with fail
  rw [HOPE.out, ← HWA.out]
  clear d0 d1
  go_upto_region 23 with fail
  clear e0 e2 e5 d0' d1'
  go_region_held3 (fun W => W.cell? ⟨kb, 5, none⟩ = some (.int .i64 stop)) ((first | exact HK5.out _ (by assumption) | exact HK5.out _ HD.out))
    ((first | (go_at_call 55; refine (HAL.out _ HD.out).mono ?_; rintro en z1 ⟨bm, rfl, hz1, hb1⟩) | (go_at_call 54; refine (HI.out _ _ hz1 hb1).mono ?_; rintro en z2 ⟨Av, cv, rfl, hr2, hz2⟩)))
  have HZ2 := Lib.hid hz2
  have hz3 := hz2.nil ((Fr.refl [] z2).drew)
  have HZ3 := Lib.hid hz3
  have HR2 := Lib.hid (hr2.fr ((Fr.refl [] z2).drew) (by simp))
  obtain ⟨A, cp, hv2, c0, hL2⟩ := HRL.out _ hz3
  clear c0
  obtain ⟨A9, cp9, hv9, c9, _⟩ := HRL.out _ hz2
  rw [hv2] at hv9
  injection hv9 with hq1 hq2 hq3
  subst hq1 hq3
  have HCR : Hid (∀ Z, Sg w0 Tx Z → Z.cell? ⟨gr, 0, none⟩ = some (.slice A m cp) ∧ Z.cell? ⟨kb, 5, none⟩ = some (.int .i64 stop)) := fun Z hz => by
    obtain ⟨A3, cp3, hv3, c3, _⟩ := HRL.out _ hz
    rw [hv2] at hv3
    injection hv3 with r1 _ r3
    subst r1 r3
    exact ⟨c3, HK5.out _ hz⟩
  have HL2 := Lib.hid hL2
  clear hz2 hz3 hr2 hz1 hb1 hv2 hL2 hq2 c9
  have u0 : (0 : Int) ≤ (u : Int) := by omega
  rcases HL2.out.2 with ⟨hv, h0⟩ | ⟨gb, off, cap, cur, hv, _, _, hnc, hcm, _, _⟩
  · injection hv with r1 r2 r3
    subst r1 r2 r3
    obtain rfl : u = 0 := by omega
    have HB : Hid (RdS z2.drew none LS) := by
      have : LS = [] := by rw [HST.out, List.take_zero]
      rw [this]
      exact RdS.nil _ _
    go_upto_region 24 with fail
    go_region_held3 (fun W => W.cell? ⟨gr, 0, none⟩ = some (.slice none 0 0) ∧ W.cell? ⟨kb, 5, none⟩ = some (.int .i64 stop)) ((first | exact HCR.out _ (by assumption) | exact HCR.out _ HZ3.out))
      ((first | (go_at_call 38; refine (HUP.out _).mono ?_; rintro en z3 ⟨rfl, rfl⟩) | (go_at_call 52; refine (HSM.out _ _ _ _ _ HZ3.out HR2.out HB.out).mono ?_; rintro en z4 ⟨rfl, hz4⟩)))
    have HZ4 := Lib.hid hz4
    clear hz4
    go_wp2_with fail
    go_ret
    exact DoX.of (Us := [thBox w0.heap.size kb 31 OP]) HZ4.out (by rw [HTX.out]; exact Chg.refl _ _ _) HLA.out.1 HLA.out.2.1 TA.out TB.out
  · injection hv with r1 r2 r3
    subst r1 r3
    have HB : Hid (RdS z2.drew (some ⟨gb, off, none⟩) LS) := by
      have hs := HL2.out.shut (k := u) (by omega)
      have e : (sV L).take (u * 1) = sV LS := by rw [HST.out, Nat.mul_one]; unfold sV; rw [List.map_take]
      rw [e] at hs
      exact hs.rds HSL.out.symm
    have u1 : (u : Int) ≤ (cp : Int) := by omega
    have hcpm : cp ≤ 9223372036854775807 := by unfold maxLen at hcm; omega
    clear r2
    go_upto_region 24 with fail
    go_region_held3 (fun W => W.cell? ⟨gr, 0, none⟩ = some (.slice (some ⟨gb, off, none⟩) m cp) ∧ W.cell? ⟨kb, 5, none⟩ = some (.int .i64 stop)) ((first | exact HCR.out _ (by assumption) | exact HCR.out _ HZ3.out))
      ((first | (go_at_call 38; refine (HUP.out _).mono ?_; rintro en z3 ⟨rfl, rfl⟩) | (go_at_call 52; refine (HSM.out _ _ _ _ _ HZ3.out HR2.out HB.out).mono ?_; rintro en z4 ⟨rfl, hz4⟩)))
    have HZ4 := Lib.hid hz4
    clear hz4
    go_wp2_with fail
    go_ret
    exact DoX.of (Us := [thBox w0.heap.size kb 31 OP]) HZ4.out (by rw [HTX.out]; exact Chg.refl _ _ _) HLA.out.1 HLA.out.2.1 TA.out TB.out

end Go.Proofs.YtdjaalkbpdmdgaaGreat
namespace Go.Proofs.YtdjaalkbpdmdgaaGreat
open Go.RowKit
set_option linter.unusedVariables false
def ft (x : ByteArray) : ByteArray := if x.size > 100 then ⟨#[]⟩ else x ++ ⟨#[43]⟩
/-- A turner: its number, what it has seen. -/
structure Tw (b0 : Nat) (w : World) (g : Nat) (v : Value) (l : List ByteArray) : Prop where
  B : Bk w g 94 #[.int .i64 0, .slice none 0 0, v]
  L : Lst w b0 9 1 v l.length (sV l)
  b : b0 ≤ g
theorem Tw.fr {b0 : Nat} {w w' : World} {g : Nat} {v : Value} {l : List ByteArray} {S : List Nat} (h : Tw b0 w g v l) (hf : Fr S w w') (hS : ∀ x ∈ skT g v, x ∉ S) : Tw b0 w' g v l :=
  ⟨h.B.fr hf (hS g (by simp [skT])), h.L.fr hf (fun k hk => hS k (by simp [skT, hk])), h.b⟩
theorem Tw.lt {b0 : Nat} {w : World} {g : Nat} {v : Value} {l : List ByteArray} (h : Tw b0 w g v l) : ∀ x ∈ skT g v, b0 ≤ x ∧ x < w.heap.size := by
  intro x hx
  simp only [skT, List.mem_cons, Option.mem_toList] at hx
  rcases hx with rfl | hx
  · exact ⟨h.b, h.B.lt⟩
  · exact h.L.lt x hx
def thTw (b0 g : Nat) (v : Value) (l : List ByteArray) : Th b0 := ⟨skT g v, fun w => Tw b0 w g v l, fun h hf hS => h.fr hf hS, fun h => h.lt⟩
def TwTo (b0 g : Nat) (v : Value) (l : List ByteArray) (r : Value) (w : World) (e : Ending) (w' : World) : Prop :=
  e = .returned r ∧ ∃ v', Tw b0 w' g v' l ∧ Fr (skT g v) w w' ∧ ∀ x ∈ skT g v', x ∈ skT g v ∨ w.heap.size ≤ x
theorem Sg.tw {w0 w w' : World} {Ts : List (Th w0.heap.size)} {e : Ending} {r v : Value} {g i : Nat} {l l' : List ByteArray} (h : Sg w0 Ts w) (hi : Ts[i]? = some (thTw w0.heap.size g v l)) (ho : TwTo w0.heap.size g v l' r w e w') : e = .returned r ∧ ∃ v', Sg w0 (Ts.set i (thTw w0.heap.size g v' l')) w' := by
  obtain ⟨h1, v', h2, h3, h4⟩ := ho
  exact ⟨h1, v', h.set hi h3 h2 h4⟩

set_option maxRecDepth 100000 in
set_option maxHeartbeats 800000 in
theorem word_any (b0 g : Nat) (v : Value) (l : List ByteArray) (x : ByteArray) (w : World) (h : Tw b0 w g v l) (hl : l.length ≤ 1000000) (hb : b0 ≤ w.heap.size) :
    Calls Tryz.prog 51 #[.pointer (some ⟨g, 0, none⟩), .string x] w (TwTo b0 g v (l ++ [x]) (.string (ft x)) w) := by
  obtain ⟨i2, hi2, hz2, hs2, hb2⟩ := info_parts' str_info
  obtain ⟨m, hm⟩ : ∃ m, l.length = m := ⟨_, rfl⟩
  have hL := h.L
  rw [hm] at hL hl
  obtain ⟨A, cp, rfl, _, _⟩ := hL.look
  have c1 : w.cell? ⟨g, 2, none⟩ = some (.slice A m cp) := h.B.cell 2
  obtain ⟨y, hy⟩ : ∃ y, ft x = y := ⟨_, rfl⟩
  have HEND : Hid (∀ (w1 : World) (v' : Value), Fr (Value.slice A m cp).ownBlock.toList w w1 → Lst w1 b0 9 1 v' (m + 1) (sV l ++ [.string x]) → (∀ k, v'.ownBlock = some k → (Value.slice A m cp).ownBlock = some k ∨ w.heap.size ≤ k) →
      Bk w1 g 94 #[.int .i64 0, .slice none 0 0, .slice A m cp] ∧ TwTo b0 g (.slice A m cp) (l ++ [x]) (.string y) w (.returned (.string y)) (w1.setCell ⟨g, 2, none⟩ v')) := fun w1 v' hf hL' hv' => by
    have hB1 := h.B.fr hf (fun hx => h.L.ne_bk h.B (by decide) g (by simpa using hx) rfl)
    have hB2 := hB1.put 2 v'
    refine ⟨hB1, rfl, v', ⟨hB2, ?_, h.b⟩, (hf.mono (fun y hy => .inl (by simp only [skT, List.mem_cons]; exact .inr hy))).setCell (.inl (by simp [skT])) _, fun y hy => ?_⟩
    · have := hL'.far (p := ⟨g, 2, none⟩) (hL'.ne_bk hB1 (by decide)) v'
      unfold sV at this ⊢
      rw [List.length_append, List.map_append, hm]
      exact this
    · simp only [skT, List.mem_cons, Option.mem_toList] at hy ⊢
      rcases hy with e | e
      · exact .inl (.inl e)
      · exact (hv' y e).imp (fun hh => .inr hh) id
  have HL := Lib.hid hL
  rw [hy]
  by_cases hc : x.size > 100
  · have hy2 : y = ⟨#[]⟩ := by rw [← hy]; unfold ft; rw [if_pos hc]
    subst hy2
    have d1 : decide ((100 : Int) < (x.size : Int)) = true := decide_eq_true (by omega)
    clear h hL hy hc
    go_enter Tryz.func51, Tryz.ntmps51
    go_wp2_with (at_builtin; refine wpList_append_lst _ rfl (.tmp 9) (.tmp 11) _ rfl b0 9 i2 _ 1 16 Tryz.underlying72 hi2 hz2 hs2 hb2 rfl (.slice A m cp) m (sV l) rfl (HL.out.alloc _) ⟨w.heap.size, 0, none⟩ 1 1 [.string x] rfl rfl (World.news_of_block (heap_alloc_new _ _)) ?cA ?cB ?cC ?cD ?cE)
    case cA => simp [Value.oneCell']
    case cB => unfold maxLen; omega
    case cC => omega
    case cD => first | omega | (simp; omega)
    case cE =>
      intro v2 w7 hown hgrow hat
      obtain ⟨q1, q3⟩ := HEND.out w7 v2 (((Fr.refl _ _).alloc _).grown hgrow (fun j hj => .inl (by simp [hj]))) hown (own_or (by simp) hat)
      have HQ := Lib.hid q3
      have c7 := q1.cell 2
      have f7 := q1.free 2
      obtain ⟨A2, cap2, rfl, _, _⟩ := hown.look
      clear hown hgrow hat q1 q3
      go_wp2_with fail
      go_ret
      exact HQ.out
  · have hy2 : y = x ++ ⟨#[43]⟩ := by rw [← hy]; unfold ft; rw [if_neg hc]
    subst hy2
    have d1 : decide ((100 : Int) < (x.size : Int)) = false := decide_eq_false (by omega)
    have d2 : ¬ (9223372036854775807 < x.size + 1) := by omega
    have d3 : x.size + 1 ≤ 9223372036854775807 := by omega
    clear h hL hy hc
    go_enter Tryz.func51, Tryz.ntmps51
    go_wp2_with (at_builtin; refine wpList_append_lst _ rfl (.tmp 9) (.tmp 11) _ rfl b0 9 i2 _ 1 16 Tryz.underlying72 hi2 hz2 hs2 hb2 rfl (.slice A m cp) m (sV l) rfl (HL.out.alloc _) ⟨w.heap.size, 0, none⟩ 1 1 [.string x] rfl rfl (World.news_of_block (heap_alloc_new _ _)) ?dA ?dB ?dC ?dD ?dE)
    case dA => simp [Value.oneCell']
    case dB => unfold maxLen; omega
    case dC => omega
    case dD => first | omega | (simp; omega)
    case dE =>
      intro v2 w7 hown hgrow hat
      obtain ⟨q1, q3⟩ := HEND.out w7 v2 (((Fr.refl _ _).alloc _).grown hgrow (fun j hj => .inl (by simp [hj]))) hown (own_or (by simp) hat)
      have HQ := Lib.hid q3
      have c7 := q1.cell 2
      have f7 := q1.free 2
      obtain ⟨A2, cap2, rfl, _, _⟩ := hown.look
      clear hown hgrow hat q1 q3
      go_wp2_with fail
      go_ret
      exact HQ.out

theorem mapX_step {L : List ByteArray} {f : ByteArray → ByteArray} {k : Nat} {x : ByteArray} (h : L[k]? = some x) : ((L.take k).map f ++ L.drop k)[k]? = some x ∧ ((L.take k).map f ++ L.drop k).set k (f x) = (L.take (k + 1)).map f ++ L.drop (k + 1) := by
  obtain ⟨h1, h2⟩ := List.getElem?_eq_some_iff.1 h
  have hl : ((L.take k).map f).length = k := by simp; omega
  have hd : L.drop k = x :: L.drop (k + 1) := by rw [List.drop_eq_getElem_cons h1, h2]
  refine ⟨?_, ?_⟩
  · rw [List.getElem?_append_right (by omega), hl, hd]
    simp
  · rw [List.set_append_right _ _ (by omega), hl, hd, List.take_succ_eq_append_getElem h1, h2]
    simp
end Go.Proofs.YtdjaalkbpdmdgaaGreat
namespace Go.Proofs.YtdjaalkbpdmdgaaGreat
open Go.RowKit
set_option linter.unusedVariables false
/-- What Map leaves. -/
def MapX (w0 : World) (Ts : List (Th w0.heap.size)) (g bt ja jt : Nat) (most : Int) (L L2 : List ByteArray) (w' : World) : Prop :=
  ∃ Ts' v vt, Sg w0 Ts' w' ∧ Chg Ts Ts' ja jt ∧ Ts'[ja]? = some (thSx 124 w0.heap.size g most v L2) ∧ Ts'[jt]? = some (thTw w0.heap.size bt vt L)

set_option maxRecDepth 100000 in
set_option maxHeartbeats 1600000 in
theorem mapX_any {w0 w : World} {Ts : List (Th w0.heap.size)} {g bt ja jt : Nat} {most : Int} {v vt : Value} {L : List ByteArray} (h : Sg w0 Ts w) (ha : Ts[ja]? = some (thSx 124 w0.heap.size g most v L)) (ht : Ts[jt]? = some (thTw w0.heap.size bt vt [])) (hab : ja ≠ jt) (hL : L.length ≤ 100000) :
    Calls Tryz.prog 50 #[.pointer (some ⟨g, 0, none⟩), .func (.func 51) #[.pointer (some ⟨bt, 0, none⟩)] #[]] w fun e w' => e = .returned (.tuple #[]) ∧ MapX w0 Ts g bt ja jt most L (L.map ft) w' := by
  have hla := (List.getElem?_eq_some_iff.1 ha).1
  have hlt := (List.getElem?_eq_some_iff.1 ht).1
  obtain ⟨m, hm⟩ : ∃ m, L.length = m := ⟨_, rfl⟩
  have HM := Lib.hid hm
  have hs := h.sx_at ha
  obtain ⟨A, cp, hv, _, hcm⟩ := hs.L.look
  rw [hm] at hv
  have c1 : w.cell? ⟨g, 1, none⟩ = some (.slice A m cp) := by rw [← hv]; exact hs.B.cell 1
  subst hv
  have HEG : ∀ args w, (callFunc 51 args).run Tryz.prog w = .ok (.enter 51 args) w := enters_of Tryz.func51 (by kernel_rfl) rfl
  -- the state: the first k turned and seen
  have H0 : Hid (∃ T vt', Sg w0 T w ∧ Chg Ts T ja jt ∧ T[ja]? = some (thSx 124 w0.heap.size g most (.slice A m cp) ((L.take 0).map ft ++ L.drop 0)) ∧ T[jt]? = some (thTw w0.heap.size bt vt' (L.take 0))) := ⟨Ts, vt, h, Chg.refl _ _ _, by simpa using ha, by simpa using ht⟩
  rw [hm] at hL
  have HLA : Hid (ja < Ts.length ∧ jt < Ts.length ∧ ja ≠ jt) := ⟨hla, hlt, hab⟩
  clear h ha ht hs hm hla hlt hab
  go_enter Tryz.func50, Tryz.ntmps50
  go_wp2_with fail
  go_loopw [11] (fun j wr => ∃ k : Nat, k ≤ m ∧ j = .int .i64 k ∧ Hid (∃ T vt', Sg w0 T wr ∧ Chg Ts T ja jt ∧ T[ja]? = some (thSx 124 w0.heap.size g most (.slice A m cp) ((L.take k).map ft ++ L.drop k)) ∧ T[jt]? = some (thTw w0.heap.size bt vt' (L.take k)))) (fun j _ => m - (intOf j).toNat)
  case atStart => exact ⟨0, by omega, rfl, H0.out⟩
  case round =>
    obtain ⟨k, hk, rfl, hx⟩ := hrel
    obtain ⟨T, vt', t1, t2, t3, t4⟩ := hx.out
    clear hx c1
    by_cases hlk : k < m
    · obtain ⟨x, hxk⟩ : ∃ x, L[k]? = some x := ⟨_, List.getElem?_eq_getElem (by have := HM.out; omega)⟩
      obtain ⟨st1, st2⟩ := mapX_step (f := ft) hxk
      have hs := t1.sx_at t3
      have hlen : ((L.take k).map ft ++ L.drop k).length = m := by simp; have := HM.out; omega
      have hsL := hs.L
      rw [hlen] at hsL
      obtain ⟨gl, off, cap, hq, _, hgl, _, _, _, hfz, hcl⟩ := hsL.form (by omega)
      injection hq with q1 _ q3
      subst q1 q3
      have cx := hcl k _ (sV_at st1)
      have cq : wr.cell? ⟨g, 1, none⟩ = some (.slice (some ⟨gl, off, none⟩) m cp) := hs.B.cell 1
      have hgq := hs.B.lt
      -- the call
      have htn : Tw w0.heap.size wr bt vt' (L.take k) := t1.ok jt _ t4
      have HC : Hid (∀ Z, Fr [] wr Z → Calls Tryz.prog 51 #[.pointer (some ⟨bt, 0, none⟩), .string x] Z (TwTo w0.heap.size bt vt' (L.take k ++ [x]) (.string (ft x)) Z)) := fun Z hz =>
        word_any _ _ _ _ x Z (htn.fr hz (by simp)) (by rw [List.length_take]; omega) (Nat.le_trans t1.fr.size hz.size)
      have htk : L.take (k + 1) = L.take k ++ [x] := by
        obtain ⟨q1, q2⟩ := List.getElem?_eq_some_iff.1 hxk
        rw [List.take_succ_eq_append_getElem q1, q2]
      -- what a store behind the call leaves
      have HAFT : Hid (∀ Z e z, Fr [] wr Z → TwTo w0.heap.size bt vt' (L.take k ++ [x]) (.string (ft x)) Z e z → e = .returned (.string (ft x)) ∧ z.cell? ⟨g, 1, none⟩ = some (.slice (some ⟨gl, off, none⟩) m cp) ∧ z.cell? ⟨gl, off + k, none⟩ = some (.string x) ∧ z.frozen? ⟨gl, off + k, none⟩ = false ∧
          ∃ T vt', Sg w0 T (z.setCell ⟨gl, off + k, none⟩ (.string (ft x))) ∧ Chg Ts T ja jt ∧ T[ja]? = some (thSx 124 w0.heap.size g most (.slice (some ⟨gl, off, none⟩) m cp) ((L.take (k + 1)).map ft ++ L.drop (k + 1))) ∧ T[jt]? = some (thTw w0.heap.size bt vt' (L.take (k + 1)))) := fun Z e z hZ ho => by
        obtain ⟨rfl, vn, hz⟩ := (t1.nil hZ).tw t4 ho
        have ta : (T.set jt (thTw w0.heap.size bt vn (L.take k ++ [x])))[ja]? = some (thSx 124 w0.heap.size g most (.slice (some ⟨gl, off, none⟩) m cp) ((L.take k).map ft ++ L.drop k)) := by rw [List.getElem?_set_ne (Ne.symm HLA.out.2.2)]; exact t3
        have hs2 := hz.sx_at ta
        have hL2 := hs2.L
        rw [hlen] at hL2
        obtain ⟨gl', off', cap', hq', _, _, _, _, _, hfz', hcl'⟩ := hL2.form (by omega)
        injection hq' with r1 _ r3
        injection r1 with r1
        injection r1 with r1 r4
        subst r1 r3 r4
        have hp := hL2.put (j := k) (.string (ft x))
        have e1 : (sV ((L.take k).map ft ++ L.drop k)).set k (.string (ft x)) = sV ((L.take (k + 1)).map ft ++ L.drop (k + 1)) := by
          rw [← st2]
          unfold sV
          rw [List.map_set]
        have hlen2 : ((L.take (k + 1)).map ft ++ L.drop (k + 1)).length = m := by rw [← st2, List.length_set]; exact hlen
        rw [e1] at hp
        refine ⟨rfl, hs2.B.cell 1, hcl' k _ (sV_at st1), hfz' _, _, vn, hz.set (t' := thSx 124 w0.heap.size g most (.slice (some ⟨gl, off, none⟩) m cp) ((L.take (k + 1)).map ft ++ L.drop (k + 1))) ta ((Fr.refl _ _).setCell (.inl (by simp [thSx, skT, Value.ownBlock])) _) ⟨hs2.B.far (p := ⟨gl, off + k, none⟩) (fun e => (hL2.ne_bk hs2.B (by decide) gl (by simp [Value.ownBlock])) e.symm) _, by rw [hlen2]; exact hp, hs2.b⟩ (fun y hy => .inl hy), (t2.set2 _).set1 _, ?_, ?_⟩
        · rw [List.getElem?_set_self (by rw [List.length_set, t2.1]; exact HLA.out.1)]
        · rw [List.getElem?_set_ne HLA.out.2.2, List.getElem?_set_self (by rw [t2.1]; exact HLA.out.2.1), htk]
      have i0 : (0 : Int) ≤ (k : Int) := by omega
      have i1 : (k : Int) < (m : Int) := by omega
      have i2 : decide ((k : Int) < (m : Int)) = true := decide_eq_true i1
      have hmb : m ≤ 100000 := hL
      clear hxk st1 st2 hs hsL hcl hfz htn htk t1 t2 t3 t4 hlen
      go_upto_region 3 with fail
      go_region_with (go_at_call 51; refine (HC.out _ (by first | exact Fr.refl _ _ | exact (Fr.refl _ _).drew)).mono ?_; intro en z ho; obtain ⟨rfl, e1, e2, e3, e4⟩ := HAFT.out _ en z (by first | exact Fr.refl _ _ | exact (Fr.refl _ _).drew) ho)
      all_goals
        have HX := Lib.hid e4
        clear ho e4
        go_wp2_with fail
        go_roundw
        case rel =>
          first
            | exact ⟨k + 1, by omega, by go_num, HX.out⟩
            | (obtain ⟨T, vn, z1, z2, z3, z4⟩ := HX.out; exact ⟨k + 1, by omega, by go_num, ⟨T, vn, z1.nil ((Fr.refl _ _).drew), z2, z3, z4⟩⟩)
        case measure => simp [intOf]; omega
    · obtain rfl : m = k := by omega
      have HX : Hid (MapX w0 Ts g bt ja jt most L (L.map ft) wr) := by
        refine ⟨T, .slice A m cp, vt', t1, t2, ?_, ?_⟩
        · rw [t3, List.take_of_length_le (by have := HM.out; omega), List.drop_eq_nil_of_le (by have := HM.out; omega), List.append_nil]
        · rw [t4, List.take_of_length_le (by have := HM.out; omega)]
      have i2 : decide ((m : Int) < (m : Int)) = false := decide_eq_false (by omega)
      clear t1 t2 t3 t4
      go_wp2_with fail
      go_returns
      exact ⟨rfl, HX.out⟩
end Go.Proofs.YtdjaalkbpdmdgaaGreat
namespace Go.Proofs.YtdjaalkbpdmdgaaGreat
open Go.RowKit
set_option linter.unusedVariables false
set_option maxRecDepth 100000 in
set_option maxHeartbeats 1600000 in
theorem d_text_map {w0 w : World} {Ts : List (Th w0.heap.size)} {gd i gs gr ja jb : Nat} {cs : Array Value} {most : Int} {v v2 : Value} {L : List ByteArray} (hi : i < 2) (h : Sg w0 Ts w) (hd : Ts[0]? = some (thBox w0.heap.size gd 52 cs)) (hc0 : cs[4 + i]? = some (.pointer (some ⟨gs, 0, none⟩))) (hc1 : cs[14 + i]? = some (.pointer (some ⟨gr, 0, none⟩))) (ha : Ts[ja]? = some (thSx 124 w0.heap.size gs most v (L))) (hb : Ts[jb]? = some (thNb 79 9 w0.heap.size gr v2 most (sV L))) (hab : ja ≠ jb) (h0a : ja ≠ 0) (h0b : jb ≠ 0) (hL : L.length ≤ 100000) (s : Bool) (n : Int) (x : Int) (str : ByteArray) (stop : Int) :
    Calls Tryz.prog 22 #[.pointer (some ⟨gd, 0, none⟩), .agg #[.int .i64 12, .bool s, .int .i64 n, .int .u64 x, .string str, .int .i64 stop], .int .i64 i] w (DoX w0 Ts 124 gs gr most ja jb (L.map ft)) := by
  have hla := (List.getElem?_eq_some_iff.1 ha).1
  have hlb := (List.getElem?_eq_some_iff.1 hb).1
  have hl0 := (List.getElem?_eq_some_iff.1 hd).1
  obtain ⟨kb, hkb⟩ : ∃ kb, w.heap.size = kb := ⟨_, rfl⟩
  obtain ⟨OP, hOP⟩ : ∃ OP : Array Value, #[.int .i64 12, .bool s, .int .i64 n, .int .u64 x, .string str, .int .i64 stop] = OP := ⟨_, rfl⟩
  have h1 := h.box 31 OP
  rw [hkb] at h1
  obtain ⟨Tx, hTx⟩ : ∃ Tx, Ts ++ [thBox w0.heap.size kb 31 OP] = Tx := ⟨_, rfl⟩
  rw [hTx] at h1
  have ta : Tx[ja]? = some (thSx 124 w0.heap.size gs most v (L)) := by rw [← hTx, List.getElem?_append_left hla]; exact ha
  have tb : Tx[jb]? = some (thNb 79 9 w0.heap.size gr v2 most (sV L)) := by rw [← hTx, List.getElem?_append_left hlb]; exact hb
  have t0 : Tx[0]? = some (thBox w0.heap.size gd 52 cs) := by rw [← hTx, List.getElem?_append_left hl0]; exact hd
  have tx : Tx[Ts.length]? = some (thBox w0.heap.size kb 31 OP) := by rw [← hTx, List.getElem?_append_right (Nat.le_refl _)]; simp
  obtain ⟨wa, hwa⟩ : ∃ wa, wa = w.alloc (.cells OP 31) := ⟨_, rfl⟩
  rw [← hwa] at h1
  have HOP : Hid (∀ Z, Bk Z kb 31 OP → Z.cell? ⟨kb, 0, none⟩ = some (.int .i64 12) ∧ Z.cell? ⟨kb, 4, none⟩ = some (.string str) ∧ Z.cell? ⟨kb, 5, none⟩ = some (.int .i64 stop)) := fun Z hz => by
    rw [← hOP] at hz
    exact ⟨hz.cell 0, hz.cell 4, hz.cell 5⟩
  have d0 : w.cell? ⟨gd, 4 + i, none⟩ = some (.pointer (some ⟨gs, 0, none⟩)) := by rw [(h.bk hd).cell]; exact hc0
  have d1 : w.cell? ⟨gd, 14 + i, none⟩ = some (.pointer (some ⟨gr, 0, none⟩)) := by rw [(h.bk hd).cell]; exact hc1
  have hgl : gd < w.heap.size := (h.bk hd).lt
  have d0' : wa.cell? ⟨gd, 4 + i, none⟩ = some (.pointer (some ⟨gs, 0, none⟩)) := by rw [(h1.bk t0).cell]; exact hc0
  have d1' : wa.cell? ⟨gd, 14 + i, none⟩ = some (.pointer (some ⟨gr, 0, none⟩)) := by rw [(h1.bk t0).cell]; exact hc1
  try simp only [Nat.zero_add] at d0'
  obtain ⟨e0, e2, e5⟩ := HOP.out wa (h1.bk tx)
  have i0 : (0 : Int) ≤ (i : Int) := by omega
  have i1 : (i : Int) < 2 := by omega
  have HWA := Lib.hid hwa
  have HOPE := Lib.hid hOP
  have HTX := Lib.hid hTx
  have H1 := Lib.hid h1
  have TA := Lib.hid ta
  have TB := Lib.hid tb
  have TX := Lib.hid tx
  have HLA : Hid (ja < Ts.length ∧ jb < Ts.length ∧ ja ≠ jb) := ⟨hla, hlb, hab⟩
  have HB0 := Lib.hid h1.fr.size
  have TBOX := Lib.hid (h1.box 94 #[.int .i64 0, .slice none 0 0, .slice none 0 0])
  obtain ⟨bt, hbt⟩ : ∃ bt, wa.heap.size = bt := ⟨_, rfl⟩
  obtain ⟨wt, hwt⟩ : ∃ wt, wt = wa.alloc (.cells #[.int .i64 0, .slice none 0 0, .slice none 0 0] 94) := ⟨_, rfl⟩
  have htl : Tx.length = Ts.length + 1 := by rw [← hTx]; simp
  have h3 : Sg w0 (Tx ++ [thTw w0.heap.size bt (.slice none 0 0) []]) wt := by
    rw [hwt]
    refine h1.push ((Fr.refl _ _).alloc _) ⟨Bk.new_at _ _ _ _ hbt, Lst.nil _ _ _ _, by rw [← hbt]; exact h1.fr.size⟩ (fun x hx => ?_)
    have : x = bt := by simpa [thTw, skT, Value.ownBlock] using hx
    omega
  have hlax : ja < Tx.length := by omega
  have HMAP := Lib.hid (mapX_any (ja := ja) (jt := Tx.length) (bt := bt) (vt := .slice none 0 0) h3 (by rw [List.getElem?_append_left hlax]; exact ta) (by rw [List.getElem?_append_right (Nat.le_refl _), Nat.sub_self]; rfl) (by omega) hL)
  obtain ⟨Lm, hLm⟩ : ∃ Lm, L.map ft = Lm := ⟨_, rfl⟩
  rw [hLm] at HMAP ⊢
  have HLM := Lib.hid hLm
  obtain ⟨m, hm⟩ : ∃ m, L.length = m := ⟨_, rfl⟩
  have HMM := Lib.hid hm
  -- behind Map
  have HAFT : Hid (∀ z, MapX w0 (Tx ++ [thTw w0.heap.size bt (.slice none 0 0) []]) gs bt ja Tx.length most L Lm z → ∃ (T : List (Th w0.heap.size)) (vq vt : Value), Sg w0 T z ∧ Chg (Tx ++ [thTw w0.heap.size bt (.slice none 0 0) []]) T ja Tx.length ∧ T[ja]? = some (thSx 124 w0.heap.size gs most vq Lm) ∧ T[jb]? = some (thNb 79 9 w0.heap.size gr v2 most (sV L)) ∧ T[Ts.length]? = some (thBox w0.heap.size kb 31 OP) ∧ T[Tx.length]? = some (thTw w0.heap.size bt vt L)) := fun z hz => by
    obtain ⟨T, vq, vt, z1, z2, z3, z4⟩ := hz
    refine ⟨T, vq, vt, z1, z2, z3, ?_, ?_, z4⟩
    · rw [z2.2 jb (by omega) (by omega), List.getElem?_append_left (by omega)]
      exact tb
    · rw [z2.2 Ts.length (by omega) (by omega), List.getElem?_append_left (by omega)]
      exact tx
  have hkb0 := hkb
  have HWT := Lib.hid hwt
  have HBT := Lib.hid hbt
  have HTL := Lib.hid htl
  clear h hd hc0 hc1 ha hb hla hlb hl0 hab h0a h0b h1 h3 ta tb t0 tx hOP hTx hwa hm hLm hwt hbt htl TBOX
  go_enter Tryz.func22, Tryz.ntmps22
  go_upto_region 1 with fail
  rw [HOPE.out, ← HWA.out]
  clear d0 d1
  go_upto_region 13 with fail
  rw [← HWT.out]
  try rw [HBT.out]
  clear e0 e2 e5 d0' d1'
  go_wp2_with fail
  refine (Calls.mono HMAP.out ?_)
  rintro en z ⟨rfl, ho⟩
  obtain ⟨T, vq, vt, z1, z2, z3, z4, z5, z6⟩ := HAFT.out z ho
  have hnb := z1.nb_at z4
  obtain ⟨A, cp, hv2, _, hcm⟩ := hnb.L.look
  rw [sV_length, HMM.out] at hv2
  have htn : Tw w0.heap.size z bt vt L := z1.ok _ _ z6
  obtain ⟨At, ct, hvt, _, _⟩ := htn.L.look
  rw [HMM.out] at hvt
  have c1 : z.cell? ⟨bt, 2, none⟩ = some (.slice At m ct) := by rw [← hvt]; exact htn.B.cell 2
  have c0 : z.cell? ⟨gr, 0, none⟩ = some (.slice A m cp) := by rw [← hv2]; exact hnb.B.cell 0
  have HS1 : Hid (Calls Tryz.prog 52 #[.slice At m ct, .slice A m cp] z.drew fun e w' => e = .returned (.bool true) ∧ Fr [] z.drew w') := by
    have l1 := htn.L
    have l2 := hnb.L
    rw [HMM.out, hvt] at l1
    rw [sV_length, HMM.out, hv2] at l2
    exact sameX_yes At A L m ct cp z.drew HMM.out.symm ((l1.rds HMM.out.symm).fr ((Fr.refl [] z).drew) (by simp)) ((l2.rds HMM.out.symm).fr ((Fr.refl [] z).drew) (by simp))
  have HK : Hid (∀ Z, Fr [] z.drew Z → Z.cell? ⟨bt, 2, none⟩ = some (.slice At m ct) ∧ Z.cell? ⟨gr, 0, none⟩ = some (.slice A m cp)) := fun Z hf => by
    have z7 := (z1.nil ((Fr.refl [] z).drew)).nil hf
    have htn : Tw w0.heap.size Z bt vt L := z7.ok _ _ z6
    exact ⟨by rw [← hvt]; exact htn.B.cell 2, by rw [← hv2]; exact (z7.nb_at z4).B.cell 0⟩
  have HZ : Hid (Sg w0 T z.drew ∧ Chg (Tx ++ [thTw w0.heap.size bt (.slice none 0 0) []]) T ja Tx.length ∧ T[ja]? = some (thSx 124 w0.heap.size gs most vq Lm) ∧ T[jb]? = some (thNb 79 9 w0.heap.size gr v2 most (sV L)) ∧ T[Ts.length]? = some (thBox w0.heap.size kb 31 OP) ∧ T[Tx.length]? = some (thTw w0.heap.size bt vt L)) := ⟨z1.nil ((Fr.refl [] z).drew), z2, z3, z4, z5, z6⟩
  have HV2 := Lib.hid hv2
  clear ho z1 z2 z3 z4 z5 z6 hnb hv2 htn hvt
  go_upto_region 14 with fail
  go_region_held3 (fun W => W.cell? ⟨bt, 2, none⟩ = some (.slice At m ct) ∧ W.cell? ⟨gr, 0, none⟩ = some (.slice A m cp)) ((first | exact HK.out _ (by assumption) | exact HK.out _ (Fr.refl _ _)))
    ((first | (go_at_call 52; refine (Calls.mono HS1.out ?_); rintro en y ⟨rfl, hfy⟩)))
  have HY : Hid (∃ (T : List (Th w0.heap.size)) (vt : Value), Sg w0 T y ∧ T.length = Tx.length + 1 ∧ (∀ j, j < Tx.length → j ≠ ja → j ≠ jb → T[j]? = Tx[j]?) ∧ T[ja]? = some (thSx 124 w0.heap.size gs most vq Lm) ∧ T[jb]? = some (thNb 79 9 w0.heap.size gr (.slice A m cp) most (sV ((L.take 0).map ft ++ L.drop 0))) ∧ T[Tx.length]? = some (thTw w0.heap.size bt vt (L ++ L.take 0))) := by
    obtain ⟨q1, q2, q3, q4, q5, q6⟩ := HZ.out
    have hl1 := HLA.out
    have hl2 := HTL.out
    have ht1 : T.length = Tx.length + 1 := by rw [q2.1]; simp
    rw [HV2.out] at q4
    refine ⟨T, vt, q1.nil hfy, ht1, fun j h0 h1 h2 => ?_, q3, by simpa using q4, by simpa using q6⟩
    rw [q2.2 j h1 (by omega), List.getElem?_append_left h0]
  clear hfy c0 c1 HMAP HAFT
  have hmb : m ≤ 100000 := by rw [← HMM.out]; exact hL
  go_wp2_with fail
  go_loopw [16] (fun j wr => ∃ k : Nat, k ≤ m ∧ j = .int .i64 k ∧ Hid (∃ (T : List (Th w0.heap.size)) (vt : Value), Sg w0 T wr ∧ T.length = Tx.length + 1 ∧ (∀ j, j < Tx.length → j ≠ ja → j ≠ jb → T[j]? = Tx[j]?) ∧ T[ja]? = some (thSx 124 w0.heap.size gs most vq Lm) ∧ T[jb]? = some (thNb 79 9 w0.heap.size gr (.slice A m cp) most (sV ((L.take k).map ft ++ L.drop k))) ∧ T[Tx.length]? = some (thTw w0.heap.size bt vt (L ++ L.take k)))) (fun j _ => m - (intOf j).toNat)
  case atStart => exact ⟨0, by omega, rfl, HY.out⟩
  case round =>
    obtain ⟨k, hk, rfl, hx⟩ := hrel
    obtain ⟨T', vt', q1, q2, q2', q3, q4, q5⟩ := hx.out
    clear hx
    have hnb := q1.nb_at q4
    have c0 : wr.cell? ⟨gr, 0, none⟩ = some (.slice A m cp) := hnb.B.cell 0
    by_cases hlk : k < m
    · obtain ⟨x, hxk⟩ : ∃ x, L[k]? = some x := ⟨_, List.getElem?_eq_getElem (by have := HMM.out; omega)⟩
      obtain ⟨st1, st2⟩ := mapX_step (f := ft) hxk
      have hlen : (sV ((L.take k).map ft ++ L.drop k)).length = m := by rw [sV_length]; simp; have := HMM.out; omega
      have hnL := hnb.L
      rw [hlen] at hnL
      obtain ⟨gl, off, cap, hq, _, hgl, _, _, _, hfz, hcl⟩ := hnL.form (by omega)
      injection hq with r1 _ r3
      subst r1 r3
      have cx := hcl k _ (sV_at st1)
      have htw : Tw w0.heap.size wr bt vt' (L ++ L.take k) := q1.ok _ _ q5
      have hbl : (L ++ L.take k).length ≤ 1000000 := by rw [List.length_append, List.length_take, HMM.out]; omega
      have HC : Hid (∀ Z, Fr [] wr Z → Calls Tryz.prog 51 #[.pointer (some ⟨bt, 0, none⟩), .string x] Z (TwTo w0.heap.size bt vt' (L ++ L.take k ++ [x]) (.string (ft x)) Z)) := fun Z hz =>
        word_any _ _ _ _ x Z (htw.fr hz (by simp)) hbl (Nat.le_trans q1.fr.size hz.size)
      have htk : L ++ L.take (k + 1) = L ++ L.take k ++ [x] := by
        obtain ⟨q1, q2⟩ := List.getElem?_eq_some_iff.1 hxk
        rw [List.take_succ_eq_append_getElem q1, q2, List.append_assoc]
      have hla := HLA.out
      have htl := HTL.out
      have HAFT : Hid (∀ Z e z, Fr [] wr Z → TwTo w0.heap.size bt vt' (L ++ L.take k ++ [x]) (.string (ft x)) Z e z → e = .returned (.string (ft x)) ∧ z.cell? ⟨gr, 0, none⟩ = some (.slice (some ⟨gl, off, none⟩) m cp) ∧ z.cell? ⟨gl, off + k, none⟩ = some (.string x) ∧ z.frozen? ⟨gl, off + k, none⟩ = false ∧
          ∃ (T : List (Th w0.heap.size)) (vt : Value), Sg w0 T (z.setCell ⟨gl, off + k, none⟩ (.string (ft x))) ∧ T.length = Tx.length + 1 ∧ (∀ j, j < Tx.length → j ≠ ja → j ≠ jb → T[j]? = Tx[j]?) ∧ T[ja]? = some (thSx 124 w0.heap.size gs most vq Lm) ∧ T[jb]? = some (thNb 79 9 w0.heap.size gr (.slice (some ⟨gl, off, none⟩) m cp) most (sV ((L.take (k + 1)).map ft ++ L.drop (k + 1)))) ∧ T[Tx.length]? = some (thTw w0.heap.size bt vt (L ++ L.take (k + 1)))) := fun Z e z hZ ho => by
        obtain ⟨rfl, vn, hz⟩ := (q1.nil hZ).tw q5 ho
        have tb : (T'.set Tx.length (thTw w0.heap.size bt vn (L ++ L.take k ++ [x])))[jb]? = some (thNb 79 9 w0.heap.size gr (.slice (some ⟨gl, off, none⟩) m cp) most (sV ((L.take k).map ft ++ L.drop k))) := by rw [List.getElem?_set_ne (by omega)]; exact q4
        have hs2 := hz.nb_at tb
        have hL2 := hs2.L
        rw [hlen] at hL2
        obtain ⟨gl', off', cap', hq', _, _, _, _, _, hfz', hcl'⟩ := hL2.form (by omega)
        injection hq' with r1 _ r3
        injection r1 with r1
        injection r1 with r1 r4
        subst r1 r3 r4
        have hp := hL2.put (j := k) (.string (ft x))
        have e1 : (sV ((L.take k).map ft ++ L.drop k)).set k (.string (ft x)) = sV ((L.take (k + 1)).map ft ++ L.drop (k + 1)) := by
          rw [← st2]
          unfold sV
          rw [List.map_set]
        have hlen2 : (sV ((L.take (k + 1)).map ft ++ L.drop (k + 1))).length = m := by rw [← e1, List.length_set]; exact hlen
        rw [e1] at hp
        refine ⟨rfl, hs2.B.cell 0, hcl' k _ (sV_at st1), hfz' _, _, vn, hz.set (t' := thNb 79 9 w0.heap.size gr (.slice (some ⟨gl, off, none⟩) m cp) most (sV ((L.take (k + 1)).map ft ++ L.drop (k + 1)))) tb ((Fr.refl _ _).setCell (.inl (by simp [thNb, skT, Value.ownBlock])) _) ⟨hs2.B.far (p := ⟨gl, off + k, none⟩) (fun e => (hL2.ne_bk hs2.B (by decide) gl (by simp [Value.ownBlock])) e.symm) _, by rw [hlen2]; exact hp, hs2.b⟩ (fun y hy => .inl hy), ?_, fun j h0 h1 h2 => ?_, ?_, ?_, ?_⟩
        · rw [List.length_set, List.length_set]; exact q2
        · rw [List.getElem?_set_ne (by omega), List.getElem?_set_ne (by omega)]; exact q2' j h0 h1 h2
        · rw [List.getElem?_set_ne (by omega), List.getElem?_set_ne (by omega)]; exact q3
        · rw [List.getElem?_set_self (by rw [List.length_set]; omega)]
        · rw [List.getElem?_set_ne (by omega), List.getElem?_set_self (by omega), htk]
      have i0 : (0 : Int) ≤ (k : Int) := by omega
      have i1 : (k : Int) < (m : Int) := by omega
      have i2 : decide ((k : Int) < (m : Int)) = true := decide_eq_true i1
      clear hxk st1 st2 hlen hnL hcl hfz hnb q1 q2 q2' q3 q4 q5 htw htk hbl hla htl
      go_upto_region 18 with fail
      go_region_with (go_at_call 51; refine (HC.out _ (by first | exact Fr.refl _ _ | exact (Fr.refl _ _).drew)).mono ?_; intro en z ho; obtain ⟨rfl, e1, e2, e3, e4⟩ := HAFT.out _ en z (by first | exact Fr.refl _ _ | exact (Fr.refl _ _).drew) ho)
      all_goals
        have HX := Lib.hid e4
        clear ho e4
        go_wp2_with fail
        go_roundw
        case rel =>
          first
            | exact ⟨k + 1, by omega, by go_num, HX.out⟩
            | (obtain ⟨T, vn, z1, z2⟩ := HX.out; exact ⟨k + 1, by omega, by go_num, T, vn, z1.nil ((Fr.refl _ _).drew), z2⟩)
        case measure => simp [intOf]; omega
    · obtain rfl : m = k := by omega
      have HX : Hid (DoX w0 Ts 124 gs gr most ja jb Lm (.returned (.bool true)) wr) := by
        rw [List.take_of_length_le (by have := HMM.out; omega), List.drop_eq_nil_of_le (by have := HMM.out; omega), List.append_nil, HLM.out] at q4
        have hl1 := HLA.out
        have hl2 := HTL.out
        refine DoX.of (Us := [thBox w0.heap.size kb 31 OP]) (q1.take Tx.length) ?_ HLA.out.1 HLA.out.2.1 (v := vq) (v2 := .slice A m cp) ?_ ?_
        · rw [HTX.out]
          refine ⟨by rw [List.length_take]; omega, fun j h1 h2 => ?_⟩
          rw [List.getElem?_take]
          split
          · rename_i h0
            exact q2' j h0 h1 h2
          · rw [List.getElem?_eq_none (by omega)]
        · rw [List.getElem?_take, if_pos (by omega)]; exact q3
        · rw [List.getElem?_take, if_pos (by omega)]; exact q4
      have i2 : decide ((m : Int) < (m : Int)) = false := decide_eq_false (by omega)
      clear hnb q1 q2 q2' q3 q4 q5
      go_wp2_with fail
      go_ret
      exact HX.out
end Go.Proofs.YtdjaalkbpdmdgaaGreat
namespace Go.Proofs.YtdjaalkbpdmdgaaGreat
open Go.RowKit
set_option linter.unusedVariables false

def updX (LS : Nat → List ByteArray) (i : Nat) (L : List ByteArray) : Nat → List ByteArray := fun j => if j = i then L else LS j
def txA (most : Int) (L : List ByteArray) (o : Ob) : List ByteArray := if o.k = 10 then addX most L o.str else if o.k = 11 then L.tail else if o.k = 12 then L.map ft else L
theorem txA_len (most : Int) (L : List ByteArray) (o : Ob) : (txA most L o).length ≤ L.length + 1 := by
  unfold txA addX
  split
  · split <;> simp
  · split
    · simp; omega
    · split <;> simp
/-- The queues of texts of the desk. -/
structure DX (w0 : World) (gd : Nat) (pt : Nat → Nat → Nat) (mo : Nat → Int) (LS : Nat → List ByteArray) (Ts : List (Th w0.heap.size)) (w : World) : Prop where
  sg : Sg w0 Ts w
  len : Ts.length = 22
  d : ∃ f : Nat → Value, Ts[0]? = some (thBox w0.heap.size gd 52 (deskA f)) ∧ ∀ i, i < 2 → ∀ j, j < 10 → f (2 * j + i) = ptV (pt i j)
  st : ∀ i, i < 2 → (∃ v, Ts[2 + 10 * i + 2]? = some (thSx 124 w0.heap.size (pt i 2) (mo i) v (LS i))) ∧ ∃ v, Ts[2 + 10 * i + 7]? = some (thNb 79 9 w0.heap.size (pt i 7) v (mo i) (sV (LS i)))

theorem textOp_any {w0 w : World} {Ts : List (Th w0.heap.size)} {gd i gs gr ja jb : Nat} {cs : Array Value} {most : Int} {v v2 : Value} {L : List ByteArray} (hi : i < 2) (h : Sg w0 Ts w) (hd : Ts[0]? = some (thBox w0.heap.size gd 52 cs)) (hc0 : cs[4 + i]? = some (.pointer (some ⟨gs, 0, none⟩))) (hc1 : cs[14 + i]? = some (.pointer (some ⟨gr, 0, none⟩))) (ha : Ts[ja]? = some (thSx 124 w0.heap.size gs most v L)) (hb : Ts[jb]? = some (thNb 79 9 w0.heap.size gr v2 most (sV L))) (hab : ja ≠ jb) (h0a : ja ≠ 0) (h0b : jb ≠ 0) (hL : L.length ≤ 100000) (o : Ob) (hk : 10 ≤ o.k ∧ o.k ≤ 14) :
    Calls Tryz.prog 22 #[.pointer (some ⟨gd, 0, none⟩), .agg o.V, .int .i64 i] w (DoX w0 Ts 124 gs gr most ja jb (txA most L o)) := by
  obtain ⟨k, s, n, x, str, stop⟩ := o
  have hk : 10 ≤ k ∧ k ≤ 14 := hk
  have : k = 10 ∨ k = 11 ∨ k = 12 ∨ k = 13 ∨ k = 14 := by omega
  rcases this with rfl | rfl | rfl | rfl | rfl
  · exact d_text_add hi h hd hc0 hc1 ha hb hab h0a h0b hL s n x str stop
  · exact d_text_take hi h hd hc0 hc1 ha hb hab h0a h0b hL s n x str stop
  · exact d_text_map hi h hd hc0 hc1 ha hb hab h0a h0b hL s n x str stop
  · exact d_text_len hi h hd hc0 hc1 ha hb hab h0a h0b hL s n x str stop
  · exact d_text_all hi h hd hc0 hc1 ha hb hab h0a h0b hL s n x str stop

theorem DX.step {w0 w w' : World} {gd : Nat} {pt : Nat → Nat → Nat} {mo : Nat → Int} {LS : Nat → List ByteArray} {Ts Us : List (Th w0.heap.size)} {i : Nat} {L' : List ByteArray} {e : Ending} (hi : i < 2) (h : DX w0 gd pt mo LS Ts w) (hd : DoX w0 (Ts ++ Us) 124 (pt i 2) (pt i 7) (mo i) (2 + 10 * i + 2) (2 + 10 * i + 7) L' e w') :
    e = .returned (.bool true) ∧ ∃ Ts', DX w0 gd pt mo (updX LS i L') Ts' w' := by
  obtain ⟨he, T, v, v2, h1, h2, h3, h4⟩ := hd
  have hl := h.len
  have hlt : T.length = Ts.length + Us.length := by rw [h2.1, List.length_append]
  have old : ∀ j, j < Ts.length → j ≠ 2 + 10 * i + 2 → j ≠ 2 + 10 * i + 7 → (T.take Ts.length)[j]? = Ts[j]? := fun j hj h5 h6 => by
    rw [List.getElem?_take, if_pos hj, h2.2 j h5 h6, List.getElem?_append_left hj]
  refine ⟨he, T.take Ts.length, h1.take _, by rw [List.length_take]; omega, ?_, fun i' hi' => ?_⟩
  · obtain ⟨f, f1, f2⟩ := h.d
    exact ⟨f, by rw [old 0 (by omega) (by omega) (by omega)]; exact f1, f2⟩
  · by_cases e : i' = i
    · subst e
      unfold updX
      rw [if_pos rfl]
      exact ⟨⟨v, by rw [List.getElem?_take, if_pos (by omega)]; exact h3⟩, v2, by rw [List.getElem?_take, if_pos (by omega)]; exact h4⟩
    · unfold updX
      rw [if_neg e]
      obtain ⟨⟨u, k1⟩, u2, k2⟩ := h.st i' hi'
      exact ⟨⟨u, by rw [old _ (by omega) (by omega) (by omega)]; exact k1⟩, u2, by rw [old _ (by omega) (by omega) (by omega)]; exact k2⟩

set_option maxRecDepth 100000 in
set_option maxHeartbeats 1600000 in
theorem plays_text {w0 w : World} {gd : Nat} {pt : Nat → Nat → Nat} {mo : Nat → Int} {LS : Nat → List ByteArray} {Ts : List (Th w0.heap.size)} (h : DX w0 gd pt mo LS Ts w) (hL : ∀ i, i < 2 → (LS i).length ≤ 100000) (o : Ob) (hk : 10 ≤ o.k ∧ o.k ≤ 14) :
    Calls Tryz.prog 11 #[.pointer (some ⟨gd, 0, none⟩), .agg o.V] w fun e w' => e = .returned (.bool true) ∧ ∃ (i : Nat) (Ts' : List (Th w0.heap.size)), i < 2 ∧ DX w0 gd pt mo (updX LS i (txA (mo i) (LS i) o)) Ts' w' := by
  obtain ⟨i, hi, his⟩ : ∃ i : Nat, i < 2 ∧ (if o.s then i = 1 else i = 0) := by
    cases o.s
    · exact ⟨0, by omega, rfl⟩
    · exact ⟨1, by omega, rfl⟩
  obtain ⟨f, f1, f2⟩ := h.d
  obtain ⟨⟨v, s1⟩, v2, s2⟩ := h.st i hi
  have hl := h.len
  have hbx := h.sg.box 31 o.V
  have HC := Lib.hid (textOp_any (gs := pt i 2) (gr := pt i 7) (ja := 2 + 10 * i + 2) (jb := 2 + 10 * i + 7) hi hbx (by rw [List.getElem?_append_left (by omega)]; exact f1) (by rw [deskA_at f (by omega)]; have := f2 i hi 2 (by omega); rw [show 2 * 2 + i = 4 + i by omega] at this; rw [this]; rfl) (by rw [deskA_at f (by omega)]; have := f2 i hi 7 (by omega); rw [show 2 * 7 + i = 14 + i by omega] at this; rw [this]; rfl)
    (by rw [List.getElem?_append_left (by omega)]; exact s1) (by rw [List.getElem?_append_left (by omega)]; exact s2) (by omega) (by omega) (by omega) (hL i hi) o hk)
  have HSTEP : Hid (∀ e w', DoX w0 (Ts ++ [thBox w0.heap.size w.heap.size 31 o.V]) 124 (pt i 2) (pt i 7) (mo i) (2 + 10 * i + 2) (2 + 10 * i + 7) (txA (mo i) (LS i) o) e w' → e = .returned (.bool true) ∧ ∃ (i : Nat) (Ts' : List (Th w0.heap.size)), i < 2 ∧ DX w0 gd pt mo (updX LS i (txA (mo i) (LS i) o)) Ts' w') := fun e w' hd => by
    obtain ⟨k1, T', k2⟩ := h.step hi hd
    exact ⟨k1, i, T', hi, k2⟩
  obtain ⟨k, s, n, x, str, stop⟩ := o
  unfold Ob.V at HC HSTEP ⊢
  have d1 : decide (k < 1) = false := decide_eq_false (by have : 10 ≤ k := hk.1; omega)
  have d2 : decide (26 < k) = false := decide_eq_false (by have : k ≤ 14 := hk.2; omega)
  have d3 : decide (k ≤ 4) = false := decide_eq_false (by have : 10 ≤ k := hk.1; omega)
  have d4 : decide (k ≤ 9) = false := decide_eq_false (by have : 10 ≤ k := hk.1; omega)
  have d5 : decide (k ≤ 14) = true := decide_eq_true hk.2
  clear h f1 f2 s1 s2 hl hbx hL hk
  cases s with
  | false =>
    have his : i = 0 := by simpa using his
    subst his
    go_enter Tryz.func11, Tryz.ntmps11
    go_wp2_with fail
    refine (Calls.mono HC.out ?_)
    intro e w' hd
    obtain ⟨rfl, hx⟩ := HSTEP.out e w' hd
    have HX := Lib.hid hx
    clear hd hx
    go_wp2_with fail
    go_ret
    exact ⟨rfl, HX.out⟩
  | true =>
    have his : i = 1 := by simpa using his
    subst his
    go_enter Tryz.func11, Tryz.ntmps11
    go_wp2_with fail
    refine (Calls.mono HC.out ?_)
    intro e w' hd
    obtain ⟨rfl, hx⟩ := HSTEP.out e w' hd
    have HX := Lib.hid hx
    clear hd hx
    go_wp2_with fail
    go_ret
    exact ⟨rfl, HX.out⟩
/-- The queues of texts, while a script is played. -/
theorem run_text {w0 w : World} {gd gm : Nat} {orig : Nat → Int} (h : BI w0 gd gm orig 2 w) : ∃ Inv : Nat → World → Prop, Inv 0 w ∧ Run w0 gd 10 14 Inv := by
  obtain ⟨pt, Ts, f, m, s1, s2, s3, s4, s5, s6⟩ := h
  refine ⟨fun k z => ∃ LS Ts', (∀ i, i < 2 → (LS i).length ≤ k) ∧ DX w0 gd pt (fun i => moOf (orig i)) LS Ts' z, ⟨fun _ => [], Ts, fun i _ => by simp, s1, s2, ⟨f, s3, fun i hi j hj => (s5 i hi).2 j hj⟩, fun i hi => ?_⟩, ⟨?_, ?_, ?_⟩⟩
  · have h0 := (s5 i hi).1 2 _ rfl
    have h5 := (s5 i hi).1 7 _ rfl
    exact ⟨⟨nilS, h0⟩, nilS, h5⟩
  · rintro k z ⟨LS, T, _, hd⟩
    exact hd.sg.fr
  · rintro k z ⟨LS, T, hl, hd⟩
    exact ⟨LS, T, fun i hi => by have := hl i hi; omega, hd⟩
  · rintro k z o hk h1 h2 ⟨LS, T, hl, hd⟩
    refine (plays_text hd (fun i hi => by have := hl i hi; omega) o ⟨h1, h2⟩).mono ?_
    rintro e z' ⟨he, i, T', hi, hd'⟩
    refine ⟨he, _, T', fun j hj => ?_, hd'⟩
    unfold updX
    split
    · have := txA_len (moOf (orig i)) (LS i) o
      have := hl i hi
      omega
    · have := hl j hj
      omega
theorem texts_st (one two : Int) (A : Option Addr) (n c : Nat) (l : List Ob) (w : World) (hn : n = l.length) (hnn : n ≤ 9223372036854775807) (hr : RdB w A l) :
    Calls Tryz.prog 5 #[.int .i64 one, .int .i64 two, .slice A n c] w fun e w' => e = .returned (.bool true) ∧ Fr [] w w' := by
  have H := Lib.hid (run_any w one two 10 14 (fun i => if i = 0 then one else two) A n c l hn hnn hr (begin_any w one two _ rfl rfl) (fun gd gm w' h => run_text h))
  clear hn hr
  go_enter Tryz.func5, Tryz.ntmps5
  go_wp2_with fail
  refine (Calls.mono H.out ?_)
  rintro e w' ⟨rfl, hf⟩
  have HF := Lib.hid hf
  clear hf
  go_wp2_with fail
  go_ret
  exact ⟨rfl, HF.out⟩
end Go.Proofs.YtdjaalkbpdmdgaaGreat
