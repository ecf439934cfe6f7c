/-
  Marks: the function literal of MarksSums; the sums of the runs in plain Lean.
-/
import Derived.Test.YtheiacfdbhjbmaaDoorMkDk1
namespace Go.Proofs.YtheiacfdbhjbmaaDoor
open Go.RowKit Go.Shelf Mk
set_option linter.unusedVariables false

/-! ### plain -/
theorem nxt_next (F : Nat → Bool) {size a : Nat} (h : a ≤ size) : nxt F a size = nextN F size a := nxt_eq h (nxtF_is F size (size - a) a (by omega))
/-- Where the i-th run ended (0: none yet), how long the first i are. -/
def eN (F : Nat → Bool) (size i : Nat) : Nat := if i = 0 then 0 else endN F size ((begs F size).getD (i - 1) 0)
def sN (F : Nat → Bool) (size : Nat) : Nat → Nat
  | 0 => 0
  | i + 1 => sN F size i + (endN F size ((begs F size).getD i 0) - (begs F size).getD i 0)
def enI (F : Nat → Bool) (size i : Nat) : Int := if i = 0 then -1 else eN F size i
theorem cnt_full {F : Nat → Bool} {a : Nat} : ∀ {n : Nat}, (∀ j, a ≤ j → j < a + n → F j = true) → cnt F a n = n
  | 0, _ => rfl
  | n + 1, h => by
    show cnt F a n + (if F (a + n) then 1 else 0) = n + 1
    rw [cnt_full (fun j h1 h2 => h j h1 (by omega)), h (a + n) (by omega) (by omega)]
    rfl
theorem sums_inv (F : Nat → Bool) (size : Nat) : ∀ i, i ≤ (begs F size).length → (∃ K, (begs F size).drop i = begF F size K (nextN F size (eN F size i)) ∧ size < nextN F size (eN F size i) + K) ∧ sN F size i = cnt F 0 (eN F size i) ∧ eN F size i ≤ size ∧ (0 < i → eN F size i < size → F (eN F size i) = false)
  | 0, _ => ⟨⟨size + 1, rfl, by omega⟩, rfl, Nat.zero_le _, fun h => by omega⟩
  | i + 1, h => by
    obtain ⟨⟨K, hd, hK⟩, hs, he, hf⟩ := sums_inv F size i (by omega)
    have hn := nextN_spec F he
    have hlt : i < (begs F size).length := by omega
    rw [List.drop_eq_getElem_cons hlt] at hd
    have ha : nextN F size (eN F size i) < size := by
      rcases Nat.lt_or_ge (nextN F size (eN F size i)) size with h | h
      · exact h
      · rw [begF_end F size h] at hd; cases hd
    obtain ⟨K', rfl⟩ : ∃ K', K = K' + 1 := ⟨K - 1, by omega⟩
    rw [begF_step F size ha] at hd
    injection hd with hd1 hd2
    have hg : (begs F size).getD i 0 = nextN F size (eN F size i) := by
      rw [List.getD_eq_getElem?_getD, List.getElem?_eq_getElem hlt, hd1]
      rfl
    have hE : eN F size (i + 1) = endN F size (nextN F size (eN F size i)) := by
      show (if i + 1 = 0 then 0 else endN F size ((begs F size).getD (i + 1 - 1) 0)) = _
      rw [if_neg (by omega), Nat.add_sub_cancel, hg]
    have hsp := endN_spec F (Nat.le_of_lt ha)
    have hlt2 := endN_lt F ha (hn.2.2.2 ha)
    rw [hE]
    refine ⟨⟨K', hd2, ?_⟩, ?_, hsp.2.1, fun _ h => hsp.2.2.2 h⟩
    · have := (nextN_spec F hsp.2.1).1
      omega
    · show sN F size i + (endN F size ((begs F size).getD i 0) - (begs F size).getD i 0) = _
      rw [hs, hg]
      have c1 := cnt_add F 0 (eN F size i) (nextN F size (eN F size i) - eN F size i)
      have c2 := cnt_add F 0 (nextN F size (eN F size i)) (endN F size (nextN F size (eN F size i)) - nextN F size (eN F size i))
      rw [Nat.zero_add] at c1 c2
      have z1 : cnt F (eN F size i) (nextN F size (eN F size i) - eN F size i) = 0 := cnt_zero (fun j hj => hn.2.2.1 (eN F size i + j) (by omega) (by omega))
      have hle := hn.1
      rw [show eN F size i + (nextN F size (eN F size i) - eN F size i) = nextN F size (eN F size i) by omega, z1] at c1
      rw [show nextN F size (eN F size i) + (endN F size (nextN F size (eN F size i)) - nextN F size (eN F size i)) = endN F size (nextN F size (eN F size i)) by omega, cnt_full (fun j h1 h2 => hsp.2.2.1 j h1 (by omega))] at c2
      omega
theorem enI_nat (F : Nat → Bool) (size i : Nat) : (enI F size i).toNat = eN F size i := by
  unfold enI
  split
  · rename_i h; subst h; rfl
  · simp
/-- The run that comes next lies behind the last one's end, and Next finds it. -/
theorem sums_step {F : Nat → Bool} {size i x : Nat} (h : (begs F size)[i]? = some x) : enI F size i < x ∧ nxtI F size (enI F size i) = x ∧ enI F size (i + 1) = endN F size x ∧ sN F size (i + 1) = sN F size i + (endN F size x - x) := by
  obtain ⟨hlt, hx⟩ := List.getElem?_eq_some_iff.1 h
  obtain ⟨⟨K, hd, hK⟩, hs, he, hf⟩ := sums_inv F size i (by omega)
  have hn := nextN_spec F he
  rw [List.drop_eq_getElem_cons hlt, hx] at hd
  have ha : nextN F size (eN F size i) < size := by
    rcases Nat.lt_or_ge (nextN F size (eN F size i)) size with h | h
    · exact h
    · rw [begF_end F size h] at hd; cases hd
  obtain ⟨K', rfl⟩ : ∃ K', K = K' + 1 := ⟨K - 1, by omega⟩
  rw [begF_step F size ha] at hd
  injection hd with hd1 _
  have hg : (begs F size).getD i 0 = x := by rw [List.getD_eq_getElem?_getD, h]; rfl
  refine ⟨?_, ?_, ?_, ?_⟩
  · unfold enI
    split
    · omega
    · rename_i h0
      rcases Nat.lt_or_ge (eN F size i) x with h | h
      · omega
      · have e : eN F size i = x := by omega
        have := hf (by omega) (by omega)
        rw [e, hd1, hn.2.2.2 ha] at this
        cases this
  · unfold nxtI
    rw [enI_nat, nxt_next F he, if_pos ha, hd1]
  · unfold enI eN
    rw [if_neg (by omega), if_neg (by omega), Nat.add_sub_cancel, hg]
  · show sN F size i + (endN F size ((begs F size).getD i 0) - (begs F size).getD i 0) = _
    rw [hg]
theorem sums_end (F : Nat → Bool) (size : Nat) : nxtI F size (enI F size (begs F size).length) = -1 ∧ sN F size (begs F size).length = cntI F size 0 size := by
  obtain ⟨⟨K, hd, hK⟩, hs, he, hf⟩ := sums_inv F size (begs F size).length (Nat.le_refl _)
  have hn := nextN_spec F he
  rw [List.drop_length] at hd
  have ha : nextN F size (eN F size (begs F size).length) = size := by
    rcases Nat.lt_or_ge (nextN F size (eN F size (begs F size).length)) size with h | h
    · obtain ⟨K', rfl⟩ : ∃ K', K = K' + 1 := ⟨K - 1, by omega⟩
      rw [begF_step F size h] at hd; cases hd
    · omega
  refine ⟨?_, ?_⟩
  · unfold nxtI
    rw [enI_nat, nxt_next F he, if_neg (by omega)]
  · rw [hs]
    unfold cntI lowI highI
    rw [if_pos (Int.le_refl _), Int.toNat_natCast, show (0 : Int).toNat = 0 from rfl, Nat.sub_zero]
    have c1 := cnt_add F 0 (eN F size (begs F size).length) (size - eN F size (begs F size).length)
    have z1 : cnt F (eN F size (begs F size).length) (size - eN F size (begs F size).length) = 0 := cnt_zero (fun j hj => hn.2.2.1 (eN F size (begs F size).length + j) (by omega) (by omega))
    rw [Nat.zero_add, show eN F size (begs F size).length + (size - eN F size (begs F size).length) = size by omega, z1] at c1
    omega
theorem enI_in (F : Nat → Bool) (size : Nat) {i : Nat} (h : i ≤ (begs F size).length) : -1 ≤ enI F size i ∧ enI F size i ≤ size := by
  have := (sums_inv F size i h).2.2.1
  unfold enI
  split <;> omega

/-! ### kept -/
theorem ws_kept {W W' : World} {row : Option Nat} {b m : Nat} {f : Nat → Bool} (h : Ws W b m f) (hg : W.grownBy W' row) (hrow : ∀ r, row = some r → ∃ o : Obj, W.heap[r]? = some o ∧ o.isCells = false) : Ws W' b m f :=
  ⟨Nat.lt_of_lt_of_le h.lt hg.size, fun i hi => by
    obtain ⟨x, hx, hw⟩ := h.wd i hi
    exact ⟨x, cell_kept hx hg hrow, hw⟩⟩
theorem map_kept {W W' : World} {row : Option Nat} {g gb size : Nat} {f : Nat → Bool} (h : MapIs W g gb size f) (hg : W.grownBy W' row) (hrow : ∀ r, row = some r → ∃ o : Obj, W.heap[r]? = some o ∧ o.isCells = false) : MapIs W' g gb size f :=
  ⟨bk_kept h.B hg hrow, by obtain ⟨cs, hb, hs⟩ := h.W; exact ⟨cs, bk_kept hb hg hrow, hs⟩, ws_kept h.V hg hrow, h.none, h.most⟩
theorem on_kept {W W' : World} {row : Option Nat} (h : On W) (hg : W.grownBy W' row) (hrow : ∀ r, row = some r → ∃ o : Obj, W.heap[r]? = some o ∧ o.isCells = false) : On W' :=
  ⟨Nat.lt_of_lt_of_le h.lt hg.size, fun k hk => cell_kept (h.at_ k hk) hg hrow⟩

/-- The literal's boxes. -/
structure LitS (W : World) (F : Nat → Bool) (size g gb bg be bw bm bs : Nat) (gd : Bool) (en sm : Int) : Prop where
  o : Bk W bg 4 #[.bool gd]
  e : Bk W be 3 #[.int .i64 en]
  w : Bk W bw 3 #[.int .i64 size]
  m : Bk W bm 24 #[.pointer (some ⟨g, 0, none⟩)]
  s : Bk W bs 3 #[.int .i64 sm]
  M : MapIs W g gb size F
  O : On W
  n1 : be ≠ bs ∧ be ≠ bw ∧ bs ≠ bw
  n0 : bg ≠ 0 ∧ be ≠ 0 ∧ bs ≠ 0
theorem LitS.kept {W W' : World} {row : Option Nat} {F : Nat → Bool} {size g gb bg be bw bm bs : Nat} {gd : Bool} {en sm : Int} (h : LitS W F size g gb bg be bw bm bs gd en sm)
    (hg : W.grownBy W' row) (hrow : ∀ r, row = some r → ∃ o : Obj, W.heap[r]? = some o ∧ o.isCells = false) : LitS W' F size g gb bg be bw bm bs gd en sm :=
  ⟨bk_kept h.o hg hrow, bk_kept h.e hg hrow, bk_kept h.w hg hrow, bk_kept h.m hg hrow, bk_kept h.s hg hrow, map_kept h.M hg hrow, on_kept h.O hg hrow, h.n1, h.n0⟩
theorem LitS.fr {W W' : World} {F : Nat → Bool} {size g gb bg be bw bm bs : Nat} {gd : Bool} {en sm : Int} (h : LitS W F size g gb bg be bw bm bs gd en sm) (hf : Fr [] W W') : LitS W' F size g gb bg be bw bm bs gd en sm :=
  ⟨h.o.fr hf (by simp), h.e.fr hf (by simp), h.w.fr hf (by simp), h.m.fr hf (by simp), h.s.fr hf (by simp), h.M.fr hf (by simp) (by simp), h.O.fr hf (by simp), h.n1, h.n0⟩
theorem LitS.put {W : World} {F : Nat → Bool} {size g gb bg be bw bm bs : Nat} {gd : Bool} {en sm : Int} (h : LitS W F size g gb bg be bw bm bs gd en sm) (gd' : Bool) (en' sm' : Int) :
    LitS (((W.setCell ⟨bg, 0, none⟩ (.bool gd')).setCell ⟨bs, 0, none⟩ (.int .i64 sm')).setCell ⟨be, 0, none⟩ (.int .i64 en')) F size g gb bg be bw bm bs gd' en' sm' ∧
    Fr [bg, be, bs] W (((W.setCell ⟨bg, 0, none⟩ (.bool gd')).setCell ⟨bs, 0, none⟩ (.int .i64 sm')).setCell ⟨be, 0, none⟩ (.int .i64 en')) := by
  have e1 : bg ≠ be := h.o.ne h.e (by decide)
  have e2 : bg ≠ bs := h.o.ne h.s (by decide)
  have e3 : bw ≠ bg := h.w.ne h.o (by decide)
  have e4 : bm ≠ bg := h.m.ne h.o (by decide)
  have e5 : bm ≠ be := h.m.ne h.e (by decide)
  have e6 : bm ≠ bs := h.m.ne h.s (by decide)
  have e7 : g ≠ bg := h.M.B.ne h.o (by decide)
  have e8 : g ≠ be := h.M.B.ne h.e (by decide)
  have e9 : g ≠ bs := h.M.B.ne h.s (by decide)
  obtain ⟨cs, hcs, _⟩ := h.M.W
  have e10 : gb ≠ bg := hcs.ne h.o (by decide)
  have e11 : gb ≠ be := hcs.ne h.e (by decide)
  have e12 : gb ≠ bs := hcs.ne h.s (by decide)
  obtain ⟨n1, n2, n3⟩ := h.n1
  have hf : Fr [bg, be, bs] W (((W.setCell ⟨bg, 0, none⟩ (.bool gd')).setCell ⟨bs, 0, none⟩ (.int .i64 sm')).setCell ⟨be, 0, none⟩ (.int .i64 en')) := (((Fr.refl _ _).setCell (by simp) _).setCell (by simp) _).setCell (by simp) _
  refine ⟨⟨?_, ?_, h.w.fr hf (by simp [e3, n2.symm, n3.symm]), h.m.fr hf (by simp [e4, e5, e6]), ?_, h.M.fr hf (by simp [e7, e8, e9]) (by simp [e10, e11, e12]), h.O.fr hf (by simp [h.n0.1.symm, h.n0.2.1.symm, h.n0.2.2.symm]), h.n1, h.n0⟩, hf⟩
  · have := ((h.o.put 0 (.bool gd')).far (p := ⟨bs, 0, none⟩) e2 (.int .i64 sm')).far (p := ⟨be, 0, none⟩) e1 (.int .i64 en')
    simpa using this
  · have := ((h.e.far (p := ⟨bg, 0, none⟩) e1.symm (.bool gd')).far (p := ⟨bs, 0, none⟩) n1 (.int .i64 sm')).put 0 (.int .i64 en')
    simpa using this
  · have := ((h.s.far (p := ⟨bg, 0, none⟩) e2.symm (.bool gd')).put 0 (.int .i64 sm')).far (p := ⟨be, 0, none⟩) n1.symm (.int .i64 en')
    simpa using this

def SumOk (F : Nat → Bool) (size g gb bg be bw bm bs : Nat) (gd : Bool) (en sm : Int) (x n : Nat) (W : World) (e : Ending) (W' : World) : Prop :=
  ∃ gd' : Bool, e = .returned (.bool gd') ∧ LitS W' F size g gb bg be bw bm bs gd' ((x : Int) + n) (wrap64 (sm + n)) ∧ Fr [bg, be, bs] W W' ∧ (gd = true → en < x → nxtI F size en = x → gd' = true)

set_option maxRecDepth 100000 in
set_option maxHeartbeats 3200000 in
theorem sums1_any (F : Nat → Bool) (size g gb bg be bw bm bs : Nat) (gd : Bool) (en sm : Int) (x n : Nat) (w : World) (h : LitS w F size g gb bg be bw bm bs gd en sm)
    (hx : x < size) (hfx : F x = true) (hn : n = endN F size x - x) (he : -1 ≤ en ∧ en ≤ 8192) (hz : size ≤ 8192) :
    Calls Tryd.prog 22 #[.int .i64 (x : Nat), .int .i64 (n : Nat), .pointer (some ⟨bg, 0, none⟩), .pointer (some ⟨be, 0, none⟩), .pointer (some ⟨bw, 0, none⟩), .pointer (some ⟨bm, 0, none⟩), .pointer (some ⟨bs, 0, none⟩)] w (SumOk F size g gb bg be bw bm bs gd en sm x n w) := by
  have c1 : w.cell? ⟨bg, 0, none⟩ = some (.bool gd) := h.o.cell 0
  have c2 : w.cell? ⟨be, 0, none⟩ = some (.int .i64 en) := h.e.cell 0
  have c3 : w.cell? ⟨bw, 0, none⟩ = some (.int .i64 size) := h.w.cell 0
  have c4 : w.cell? ⟨bm, 0, none⟩ = some (.pointer (some ⟨g, 0, none⟩)) := h.m.cell 0
  have c5 : w.cell? ⟨bs, 0, none⟩ = some (.int .i64 sm) := h.s.cell 0
  have f1 := h.o.free 0
  have f2 := h.e.free 0
  have f5 := h.s.free 0
  have e1 : bg ≠ be := h.o.ne h.e (by decide)
  have e2 : bg ≠ bs := h.o.ne h.s (by decide)
  obtain ⟨n1, n2, n3⟩ := h.n1
  have hsp := endN_spec F (Nat.le_of_lt hx)
  have hlt := endN_lt F hx hfx
  have hxn : x + n ≤ size := by omega
  have hn1 : decide ((1 : Int) ≤ (n : Int)) = true := decide_eq_true (by omega)
  have hn1' : decide ((n : Int) ≥ (1 : Int)) = true := decide_eq_true (by omega)
  have hxs : decide ((x : Int) + (n : Int) ≤ (size : Int)) = true := decide_eq_true (by omega)
  have hcn : cntI F size (x : Int) ((x : Int) + (n : Int)) = n := by
    unfold cntI lowI highI
    rw [if_pos (by omega), Int.toNat_natCast, show ((x : Int) + (n : Int)).toNat = x + n by omega, Nat.add_sub_cancel_left]
    exact cnt_full (fun j h1 h2 => hsp.2.2.1 j h1 (by omega))
  have hhn : hasF F size ((x : Int) + (n : Int)) = false := by
    unfold hasF
    rw [show ((x : Int) + (n : Int)).toNat = endN F size x by omega]
    by_cases hl : endN F size x < size
    · rw [hsp.2.2.2 hl]; simp
    · rw [decide_eq_false (show ¬ (x : Int) + (n : Int) < (size : Int) by omega)]; simp
  have xn : ((n : Int) == (n : Int)) = true := by simp
  have H := Lib.hid h
  have HC := Lib.hid hcn
  have HH := Lib.hid hhn
  clear h hcn hhn hsp hlt hn
  cases gd with
  | false =>
    go_enter Tryd.func22, Tryd.ntmps22
    go_wp2_with fail
    go_ret
    obtain ⟨p1, p2⟩ := H.out.put false ((x : Int) + n) (wrap64 (sm + n))
    exact ⟨false, rfl, p1, p2, fun h => by cases h⟩
  | true =>
    by_cases hex : en < x
    · have hex' : decide (en < (x : Int)) = true := decide_eq_true hex
      have HEX := Lib.hid hex
      clear hex
      go_enter Tryd.func22, Tryd.ntmps22
      go_wp2_with fail
      refine (countm_any g gb size F x ((x : Int) + n) w H.out.M H.out.O).mono ?_
      rintro e w1 ⟨rfl, q1, hw1⟩
      rw [HC.out]
      have hf1 : Fr [] w w1 := by rw [hw1]; exact (Fr.refl _ _).drewN _
      have H1 := Lib.hid (H.out.fr hf1)
      have HF1 := Lib.hid hf1
      have c2 : w1.cell? ⟨be, 0, none⟩ = some (.int .i64 en) := H1.out.e.cell 0
      have c4 : w1.cell? ⟨bm, 0, none⟩ = some (.pointer (some ⟨g, 0, none⟩)) := H1.out.m.cell 0
      clear hw1 hf1
      go_wp2_with fail
      refine (nextm_any g gb size F en w1 (by omega) H1.out.M).mono ?_
      rintro e w2 ⟨rfl, q2, hw2⟩
      have hf2 : Fr [] w1 w2 := by rw [hw2]; exact (Fr.refl _ _).drewN _
      have H2 := Lib.hid (H1.out.fr hf2)
      have HF2 := Lib.hid (HF1.out.trans hf2 (by simp))
      have c1 : w2.cell? ⟨bg, 0, none⟩ = some (.bool true) := H2.out.o.cell 0
      have c2 : w2.cell? ⟨be, 0, none⟩ = some (.int .i64 en) := H2.out.e.cell 0
      have c4 : w2.cell? ⟨bm, 0, none⟩ = some (.pointer (some ⟨g, 0, none⟩)) := H2.out.m.cell 0
      have c5 : w2.cell? ⟨bs, 0, none⟩ = some (.int .i64 sm) := H2.out.s.cell 0
      have f1 := H2.out.o.free 0
      have f2 := H2.out.e.free 0
      have f5 := H2.out.s.free 0
      clear hw2 hf2
      by_cases hnx : nxtI F size en = x
      · rw [hnx]
        have xx : ((x : Int) == (x : Int)) = true := by simp
        clear hnx
        go_wp2_with fail
        refine (hasm_any g gb size F ((x : Int) + n) w2 H2.out.M).mono ?_
        rintro e w3 ⟨rfl, rfl⟩
        rw [HH.out]
        go_wp2_with fail
        go_ret
        obtain ⟨p1, p2⟩ := H2.out.put true ((x : Int) + n) (wrap64 (sm + n))
        exact ⟨true, rfl, p1, HF2.out.mono (by simp) |>.trans p2 (fun _ h => .inl h), fun _ _ _ => rfl⟩
      · have hnx' : (nxtI F size en == (x : Int)) = false := by simpa using hnx
        have HNX := Lib.hid hnx
        obtain ⟨nx, hnx0⟩ : ∃ nx, nxtI F size en = nx := ⟨_, rfl⟩
        rw [hnx0] at hnx' ⊢
        clear hnx hnx0
        go_wp2_with fail
        go_ret
        obtain ⟨p1, p2⟩ := H2.out.put false ((x : Int) + n) (wrap64 (sm + n))
        exact ⟨false, rfl, p1, HF2.out.mono (by simp) |>.trans p2 (fun _ h => .inl h), fun _ _ h => absurd h HNX.out⟩
    · have hex' : decide (en < (x : Int)) = false := decide_eq_false hex
      have HEX := Lib.hid hex
      clear hex
      go_enter Tryd.func22, Tryd.ntmps22
      go_wp2_with fail
      go_ret
      obtain ⟨p1, p2⟩ := H.out.put false ((x : Int) + n) (wrap64 (sm + n))
      exact ⟨false, rfl, p1, p2, fun _ h _ => by have := HEX.out; omega⟩
end Go.Proofs.YtheiacfdbhjbmaaDoor
