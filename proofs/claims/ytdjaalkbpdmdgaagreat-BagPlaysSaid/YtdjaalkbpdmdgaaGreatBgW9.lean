/-
  Bag: a script's step on the tables (wordOp); BagTables.
-/
import Derived.Test.YtdjaalkbpdmdgaaGreatBgW8
import Derived.Test.YtdjaalkbpdmdgaaGreatBgT12
namespace Go.Proofs.YtdjaalkbpdmdgaaGreat
open Go.RowKit
set_option linter.unusedVariables false

set_option maxRecDepth 100000 in
set_option maxHeartbeats 1600000 in
theorem d_word_all {w0 w : World} {Ts : List (Th w0.heap.size)} {gd i gs gr ja jb : Nat} {cs : Array Value} {v kv vv : Value} {l r : List PN} (hi : i < 2) (h : Sg w0 Ts w) (hd : Ts[0]? = some (thBox w0.heap.size gd 52 cs)) (hc0 : cs[6 + i]? = some (.pointer (some ⟨gs, 0, none⟩))) (hc1 : cs[16 + i]? = some (.pointer (some ⟨gr, 0, none⟩))) (ha : Ts[ja]? = some (thTbN w0.heap.size gs v l)) (hb : Ts[jb]? = some (thRw 71 3 29 w0.heap.size gr kv vv (rkN r) (rvN r))) (hab : ja ≠ jb) (h0a : ja ≠ 0) (h0b : jb ≠ 0) (hR : Rl l r) (hL : l.length ≤ 100000) (s : Bool) (n : Int) (x : Int) (str : ByteArray) (stop : Int) :
    Calls Tryz.prog 23 #[.pointer (some ⟨gd, 0, none⟩), .agg #[.int .i64 20, .bool s, .int .i64 n, .int .u64 x, .string str, .int .i64 stop], .int .i64 i] w (DoW w0 Ts gs gr ja jb (l) (r)) := by
  have hla := (List.getElem?_eq_some_iff.1 ha).1
  have hlb := (List.getElem?_eq_some_iff.1 hb).1
  have hl0 := (List.getElem?_eq_some_iff.1 hd).1
  have hlr : r.length ≤ 100000 := by rw [← hR.len]; exact hL
  obtain ⟨kb, hkb⟩ : ∃ kb, w.heap.size = kb := ⟨_, rfl⟩
  obtain ⟨OP, hOP⟩ : ∃ OP : Array Value, #[.int .i64 20, .bool s, .int .i64 n, .int .u64 x, .string str, .int .i64 stop] = OP := ⟨_, rfl⟩
  have h1 := h.box 31 OP
  rw [hkb] at h1
  obtain ⟨Tx, hTx⟩ : ∃ Tx, Ts ++ [thBox w0.heap.size kb 31 OP] = Tx := ⟨_, rfl⟩
  rw [hTx] at h1
  have ta : Tx[ja]? = some (thTbN w0.heap.size gs v l) := by rw [← hTx, List.getElem?_append_left hla]; exact ha
  have tb : Tx[jb]? = some (thRw 71 3 29 w0.heap.size gr kv vv (rkN r) (rvN r)) := by rw [← hTx, List.getElem?_append_left hlb]; exact hb
  have t0 : Tx[0]? = some (thBox w0.heap.size gd 52 cs) := by rw [← hTx, List.getElem?_append_left hl0]; exact hd
  have tx : Tx[Ts.length]? = some (thBox w0.heap.size kb 31 OP) := by rw [← hTx, List.getElem?_append_right (Nat.le_refl _)]; simp
  obtain ⟨wa, hwa⟩ : ∃ wa, wa = w.alloc (.cells OP 31) := ⟨_, rfl⟩
  rw [← hwa] at h1
  have HOP : Hid (∀ Z, Bk Z kb 31 OP → Z.cell? ⟨kb, 0, none⟩ = some (.int .i64 20) ∧ Z.cell? ⟨kb, 2, none⟩ = some (.int .i64 n) ∧ Z.cell? ⟨kb, 3, none⟩ = some (.int .u64 x) ∧ Z.cell? ⟨kb, 4, none⟩ = some (.string str) ∧ Z.cell? ⟨kb, 5, none⟩ = some (.int .i64 stop)) := fun Z hz => by
    rw [← hOP] at hz
    exact ⟨hz.cell 0, hz.cell 2, hz.cell 3, hz.cell 4, hz.cell 5⟩
  have d0 : w.cell? ⟨gd, 6 + i, none⟩ = some (.pointer (some ⟨gs, 0, none⟩)) := by rw [(h.bk hd).cell]; exact hc0
  have d1 : w.cell? ⟨gd, 16 + i, none⟩ = some (.pointer (some ⟨gr, 0, none⟩)) := by rw [(h.bk hd).cell]; exact hc1
  have hgl : gd < w.heap.size := (h.bk hd).lt
  have d0' : wa.cell? ⟨gd, 6 + i, none⟩ = some (.pointer (some ⟨gs, 0, none⟩)) := by rw [(h1.bk t0).cell]; exact hc0
  have d1' : wa.cell? ⟨gd, 16 + i, none⟩ = some (.pointer (some ⟨gr, 0, none⟩)) := by rw [(h1.bk t0).cell]; exact hc1
  obtain ⟨e0, e2, e3, e4, e5⟩ := HOP.out wa (h1.bk tx)
  have i0 : (0 : Int) ≤ (i : Int) := by omega
  have i1 : (i : Int) < 2 := by omega
  have HWA := Lib.hid hwa
  have HOPE := Lib.hid hOP
  have HTX := Lib.hid hTx
  have H1 := Lib.hid h1
  have TA := Lib.hid ta
  have TB := Lib.hid tb
  have TX := Lib.hid tx
  have HLA : Hid (ja < Ts.length ∧ jb < Ts.length ∧ ja ≠ jb) := ⟨hla, hlb, hab⟩
  have HB0 := Lib.hid h1.fr.size
  have hkb0 := hkb
  have HC1 := Lib.hid (wordAll_any w0.heap.size gd gs gr i cs v kv vv l r stop wa hi (h1.bk t0) hc0 hc1 (h1.tbN_at ta) (h1.rw_at tb) hR hL)
  clear h hd hc0 hc1 ha hb hla hlb hl0 hab h0a h0b h1 ta tb t0 tx hOP hTx hwa hR hlr
  go_enter Tryz.func23, Tryz.ntmps23
  go_upto_region 1 with fail
  rw [HOPE.out, ← HWA.out]
  clear d0 d1
  go_wp2_with fail
  refine (Calls.mono HC1.out ?_)
  rintro en w1 ⟨rfl, hf1⟩
  have H4 := Lib.hid (H1.out.nil hf1)
  clear hf1
  go_wp2_with fail
  go_ret
  exact DoW.of (Us := [thBox w0.heap.size kb 31 OP]) H4.out (by rw [HTX.out]; exact Chg.refl _ _ _) HLA.out.1 HLA.out.2.1 TA.out TB.out

def twN (l : List PN) (o : Ob) : List PN := if o.k = 15 then tsetN l o.n o.x else if o.k = 17 then tdropN l o.n else l
def rwN (r : List PN) (o : Ob) : List PN := if o.k = 15 then rsetR r o.n o.x else if o.k = 17 then rdropR r o.n else r
theorem twN_rl {l r : List PN} (h : Rl l r) (o : Ob) : Rl (twN l o) (rwN r o) := by
  unfold twN rwN
  split
  · exact h.set _ _
  · split
    · exact h.drop _
    · exact h
theorem twN_len {l r : List PN} (h : Rl l r) (o : Ob) : (twN l o).length ≤ l.length + 1 := by
  unfold twN
  split
  · rw [tsetN_length]; split <;> omega
  · split
    · rw [tdropN_length _ _ h.rise]; split <;> omega
    · omega
theorem wordOp_any {w0 w : World} {Ts : List (Th w0.heap.size)} {gd i gs gr ja jb : Nat} {cs : Array Value} {v kv vv : Value} {l r : List PN} (hi : i < 2) (h : Sg w0 Ts w) (hd : Ts[0]? = some (thBox w0.heap.size gd 52 cs)) (hc0 : cs[6 + i]? = some (.pointer (some ⟨gs, 0, none⟩))) (hc1 : cs[16 + i]? = some (.pointer (some ⟨gr, 0, none⟩))) (ha : Ts[ja]? = some (thTbN w0.heap.size gs v l)) (hb : Ts[jb]? = some (thRw 71 3 29 w0.heap.size gr kv vv (rkN r) (rvN r))) (hab : ja ≠ jb) (h0a : ja ≠ 0) (h0b : jb ≠ 0) (hR : Rl l r) (hL : l.length ≤ 100000) (o : Ob) (hk : 15 ≤ o.k ∧ o.k ≤ 20) :
    Calls Tryz.prog 23 #[.pointer (some ⟨gd, 0, none⟩), .agg o.V, .int .i64 i] w (DoW w0 Ts gs gr ja jb (twN l o) (rwN r o)) := by
  obtain ⟨k, s, n, x, str, stop⟩ := o
  have hk : 15 ≤ k ∧ k ≤ 20 := hk
  have : k = 15 ∨ k = 16 ∨ k = 17 ∨ k = 18 ∨ k = 19 ∨ k = 20 := by omega
  rcases this with rfl | rfl | rfl | rfl | rfl | rfl
  · exact d_word_set hi h hd hc0 hc1 ha hb hab h0a h0b hR hL s n x str stop
  · exact d_word_get hi h hd hc0 hc1 ha hb hab h0a h0b hR hL s n x str stop
  · exact d_word_drop hi h hd hc0 hc1 ha hb hab h0a h0b hR hL s n x str stop
  · exact d_word_near hi h hd hc0 hc1 ha hb hab h0a h0b hR hL s n x str stop
  · exact d_word_len hi h hd hc0 hc1 ha hb hab h0a h0b hR hL s n x str stop
  · exact d_word_all hi h hd hc0 hc1 ha hb hab h0a h0b hR hL s n x str stop

set_option maxRecDepth 100000 in
set_option maxHeartbeats 1600000 in
/-- plays is wordOp for these kinds. -/
theorem plays_wordof {w : World} {gd i : Nat} {o : Ob} {Q : Ending → World → Prop} {P : World → Prop} (his : if o.s then i = 1 else i = 0) (hk : 15 ≤ o.k ∧ o.k ≤ 20)
    (hC : Calls Tryz.prog 23 #[.pointer (some ⟨gd, 0, none⟩), .agg o.V, .int .i64 i] (w.alloc (.cells o.V 31)) Q) (hQ : ∀ e w', Q e w' → e = .returned (.bool true) ∧ P w') :
    Calls Tryz.prog 11 #[.pointer (some ⟨gd, 0, none⟩), .agg o.V] w fun e w' => e = .returned (.bool true) ∧ P w' := by
  have HC := Lib.hid hC
  have HQ := Lib.hid hQ
  clear hC hQ
  obtain ⟨k, s, n, x, str, stop⟩ := o
  unfold Ob.V at HC ⊢
  have hk : 15 ≤ k ∧ k ≤ 20 := hk
  have d1 : decide (k < 1) = false := decide_eq_false (by omega)
  have d2 : decide (26 < k) = false := decide_eq_false (by omega)
  have d3 : decide (k ≤ 4) = false := decide_eq_false (by omega)
  have d4 : decide (k ≤ 9) = false := decide_eq_false (by omega)
  have d5 : decide (k ≤ 14) = false := decide_eq_false (by omega)
  have d6 : decide (k ≤ 20) = true := decide_eq_true (by omega)
  clear hk
  cases s with
  | false =>
    have his : i = 0 := by simpa using his
    subst his
    go_enter Tryz.func11, Tryz.ntmps11
    go_wp2_with fail
    refine (Calls.mono HC.out ?_)
    intro e w' hd
    obtain ⟨rfl, hx⟩ := HQ.out e w' hd
    have HX := Lib.hid hx
    clear hd hx
    go_wp2_with fail
    go_ret
    exact ⟨rfl, HX.out⟩
  | true =>
    have his : i = 1 := by simpa using his
    subst his
    go_enter Tryz.func11, Tryz.ntmps11
    go_wp2_with fail
    refine (Calls.mono HC.out ?_)
    intro e w' hd
    obtain ⟨rfl, hx⟩ := HQ.out e w' hd
    have HX := Lib.hid hx
    clear hd hx
    go_wp2_with fail
    go_ret
    exact ⟨rfl, HX.out⟩
/-- The tables of the desk. -/
structure DN (w0 : World) (gd : Nat) (pt : Nat → Nat → Nat) (LT LR : Nat → List PN) (Ts : List (Th w0.heap.size)) (w : World) : Prop where
  sg : Sg w0 Ts w
  len : Ts.length = 22
  d : ∃ f : Nat → Value, Ts[0]? = some (thBox w0.heap.size gd 52 (deskA f)) ∧ ∀ i, i < 2 → ∀ j, j < 10 → f (2 * j + i) = ptV (pt i j)
  st : ∀ i, i < 2 → (∃ v, Ts[2 + 10 * i + 3]? = some (thTbN w0.heap.size (pt i 3) v (LT i))) ∧ ∃ kv vv, Ts[2 + 10 * i + 8]? = some (thRw 71 3 29 w0.heap.size (pt i 8) kv vv (rkN (LR i)) (rvN (LR i)))
  rl : ∀ i, i < 2 → Rl (LT i) (LR i)
def updPN (LS : Nat → List PN) (i : Nat) (L : List PN) : Nat → List PN := fun j => if j = i then L else LS j
theorem DN.step {w0 w w' : World} {gd : Nat} {pt : Nat → Nat → Nat} {LT LR : Nat → List PN} {Ts Us : List (Th w0.heap.size)} {i : Nat} {l r : List PN} {e : Ending} (hi : i < 2) (h : DN w0 gd pt LT LR Ts w) (hr : Rl l r) (hd : DoW w0 (Ts ++ Us) (pt i 3) (pt i 8) (2 + 10 * i + 3) (2 + 10 * i + 8) l r e w') :
    e = .returned (.bool true) ∧ ∃ Ts', DN w0 gd pt (updPN LT i l) (updPN LR i r) Ts' w' := by
  obtain ⟨he, T, v, kv, vv, h1, h2, h3, h4⟩ := hd
  have hl := h.len
  have hlt : T.length = Ts.length + Us.length := by rw [h2.1, List.length_append]
  have old : ∀ j, j < Ts.length → j ≠ 2 + 10 * i + 3 → j ≠ 2 + 10 * i + 8 → (T.take Ts.length)[j]? = Ts[j]? := fun j hj h5 h6 => by
    rw [List.getElem?_take, if_pos hj, h2.2 j h5 h6, List.getElem?_append_left hj]
  refine ⟨he, T.take Ts.length, h1.take _, by rw [List.length_take]; omega, ?_, fun i' hi' => ?_, fun i' hi' => ?_⟩
  · obtain ⟨f, f1, f2⟩ := h.d
    exact ⟨f, by rw [old 0 (by omega) (by omega) (by omega)]; exact f1, f2⟩
  · by_cases e : i' = i
    · subst e
      unfold updPN
      rw [if_pos rfl, if_pos rfl]
      exact ⟨⟨v, by rw [List.getElem?_take, if_pos (by omega)]; exact h3⟩, kv, vv, by rw [List.getElem?_take, if_pos (by omega)]; exact h4⟩
    · unfold updPN
      rw [if_neg e, if_neg e]
      obtain ⟨⟨u, k1⟩, u2, u3, k2⟩ := h.st i' hi'
      exact ⟨⟨u, by rw [old _ (by omega) (by omega) (by omega)]; exact k1⟩, u2, u3, by rw [old _ (by omega) (by omega) (by omega)]; exact k2⟩
  · unfold updPN
    by_cases e : i' = i
    · rw [if_pos e, if_pos e]; exact hr
    · rw [if_neg e, if_neg e]; exact h.rl i' hi'
theorem plays_word {w0 w : World} {gd : Nat} {pt : Nat → Nat → Nat} {LT LR : Nat → List PN} {Ts : List (Th w0.heap.size)} (h : DN w0 gd pt LT LR Ts w) (hL : ∀ i, i < 2 → (LT i).length ≤ 100000) (o : Ob) (hk : 15 ≤ o.k ∧ o.k ≤ 20) :
    Calls Tryz.prog 11 #[.pointer (some ⟨gd, 0, none⟩), .agg o.V] w fun e w' => e = .returned (.bool true) ∧ ∃ (i : Nat) (Ts' : List (Th w0.heap.size)), i < 2 ∧ DN w0 gd pt (updPN LT i (twN (LT i) o)) (updPN LR i (rwN (LR i) o)) Ts' w' := by
  obtain ⟨i, hi, his⟩ : ∃ i : Nat, i < 2 ∧ (if o.s then i = 1 else i = 0) := by
    cases o.s
    · exact ⟨0, by omega, rfl⟩
    · exact ⟨1, by omega, rfl⟩
  obtain ⟨f, f1, f2⟩ := h.d
  obtain ⟨⟨v, s1⟩, kv, vv, s2⟩ := h.st i hi
  have hl := h.len
  have hbx := h.sg.box 31 o.V
  refine plays_wordof his hk (wordOp_any (gs := pt i 3) (gr := pt i 8) (ja := 2 + 10 * i + 3) (jb := 2 + 10 * i + 8) hi hbx (by rw [List.getElem?_append_left (by omega)]; exact f1) (by rw [deskA_at f (by omega)]; have := f2 i hi 3 (by omega); rw [show 2 * 3 + i = 6 + i by omega] at this; rw [this]; rfl) (by rw [deskA_at f (by omega)]; have := f2 i hi 8 (by omega); rw [show 2 * 8 + i = 16 + i by omega] at this; rw [this]; rfl)
    (by rw [List.getElem?_append_left (by omega)]; exact s1) (by rw [List.getElem?_append_left (by omega)]; exact s2) (by omega) (by omega) (by omega) (h.rl i hi) (hL i hi) o hk) (fun e w' hd => ?_)
  obtain ⟨k1, T', k2⟩ := h.step hi (twN_rl (h.rl i hi) o) hd
  exact ⟨k1, i, T', hi, k2⟩
/-- The tables, while a script is played. -/
theorem run_word {w0 w : World} {gd gm : Nat} {orig : Nat → Int} (h : BI w0 gd gm orig 2 w) : ∃ Inv : Nat → World → Prop, Inv 0 w ∧ Run w0 gd 15 20 Inv := by
  obtain ⟨pt, Ts, f, m, s1, s2, s3, s4, s5, s6⟩ := h
  refine ⟨fun k z => ∃ LT LR Ts', (∀ i, i < 2 → (LT i).length ≤ k) ∧ DN w0 gd pt LT LR Ts' z, ⟨fun _ => [], fun _ => [], Ts, fun i _ => by simp, s1, s2, ⟨f, s3, fun i hi j hj => (s5 i hi).2 j hj⟩, fun i hi => ?_, fun i hi => Rl.nil⟩, ⟨?_, ?_, ?_⟩⟩
  · have h0 := (s5 i hi).1 3 _ rfl
    have h5 := (s5 i hi).1 8 _ rfl
    exact ⟨⟨nilS, h0⟩, nilS, nilS, h5⟩
  · rintro k z ⟨LT, LR, T, _, hd⟩
    exact hd.sg.fr
  · rintro k z ⟨LT, LR, T, hl, hd⟩
    exact ⟨LT, LR, T, fun i hi => by have := hl i hi; omega, hd⟩
  · rintro k z o hk h1 h2 ⟨LT, LR, T, hl, hd⟩
    refine (plays_word hd (fun i hi => by have := hl i hi; omega) o ⟨h1, h2⟩).mono ?_
    rintro e z' ⟨he, i, T', hi, hd'⟩
    refine ⟨he, _, _, T', fun j hj => ?_, hd'⟩
    unfold updPN
    split
    · have := twN_len (hd.rl i hi) o
      have := hl i hi
      omega
    · have := hl j hj
      omega
theorem tables_st (A : Option Addr) (n c : Nat) (l : List Ob) (w : World) (hn : n = l.length) (hnn : n ≤ 9223372036854775807) (hr : RdB w A l) :
    Calls Tryz.prog 6 #[.slice A n c] w fun e w' => e = .returned (.bool true) ∧ Fr [] w w' := by
  have H := Lib.hid (run_any w 0 0 15 20 (fun _ => 0) A n c l hn hnn hr (begin_any w 0 0 _ rfl rfl) (fun gd gm w' h => run_word h))
  clear hn hr
  go_enter Tryz.func6, Tryz.ntmps6
  go_wp2_with fail
  refine (Calls.mono H.out ?_)
  rintro e w' ⟨rfl, hf⟩
  have HF := Lib.hid hf
  clear hf
  go_wp2_with fail
  go_ret
  exact ⟨rfl, HF.out⟩
end Go.Proofs.YtdjaalkbpdmdgaaGreat
