/-
  Bag, the document's answer: lists of numbers and of texts in memory: New, Put, Push, First, Take.
-/
import Derived.Test.YtdjaalkbpdmdgaaGreatBg2
import Derived.Test.YtdjaalkbpdmdgaaGreatBgT1
namespace Go.Proofs.YtdjaalkbpdmdgaaGreat
open Go.RowKit
set_option linter.unusedVariables false

def sV (l : List ByteArray) : List Value := l.map Value.string
theorem sV_at {l : List ByteArray} {i : Nat} {x : ByteArray} (h : l[i]? = some x) : (sV l)[i]? = some (.string x) := by
  unfold sV
  rw [List.getElem?_map, h]
  rfl
theorem sV_length (l : List ByteArray) : (sV l).length = l.length := by simp [sV]
theorem str_info : (Tryz.prog.info? 9).map (fun i => (i.zero, i.size, i.bytes)) = some (some (.string ⟨#[]⟩), 1, 16) := by kernel_rfl

/-- A list of the document's: its things (as values), its bound. -/
structure Nb (t et : TypeId) (b0 : Nat) (w : World) (g : Nat) (v : Value) (most : Int) (xs : List Value) : Prop where
  B : Bk w g t #[v, .int .i64 most]
  L : Lst w b0 et 1 v xs.length xs
  b : b0 ≤ g
theorem Nb.fr {t et : TypeId} {b0 : Nat} {w w' : World} {g : Nat} {most : Int} {v : Value} {xs : List Value} {S : List Nat} (h : Nb t et b0 w g v most xs) (hf : Fr S w w') (hS : ∀ x ∈ skT g v, x ∉ S) : Nb t et b0 w' g v most xs :=
  ⟨h.B.fr hf (hS g (by simp [skT])), h.L.fr hf (fun k hk => hS k (by simp [skT, hk])), h.b⟩
theorem Nb.lt {t et : TypeId} {b0 : Nat} {w : World} {g : Nat} {most : Int} {v : Value} {xs : List Value} (h : Nb t et b0 w g v most xs) : ∀ x ∈ skT g v, b0 ≤ x ∧ x < w.heap.size := by
  intro x hx
  simp only [skT, List.mem_cons, Option.mem_toList] at hx
  rcases hx with rfl | hx
  · exact ⟨h.b, h.B.lt⟩
  · exact h.L.lt x hx
def NbTo (t et : TypeId) (b0 : Nat) (g : Nat) (v : Value) (most : Int) (xs : List Value) (r : Value) (w : World) (e : Ending) (w' : World) : Prop :=
  e = .returned r ∧ ∃ v', Nb t et b0 w' g v' most xs ∧ Fr (skT g v) w w' ∧ ∀ x ∈ skT g v', x ∈ skT g v ∨ w.heap.size ≤ x
theorem NbTo.same {t et : TypeId} {b0 : Nat} {w w' : World} {g : Nat} {most : Int} {v : Value} {xs : List Value} {r : Value} (h : Nb t et b0 w g v most xs) (hf : Fr [] w w') : NbTo t et b0 g v most xs r w (.returned r) w' :=
  ⟨rfl, v, h.fr hf (by simp), hf.mono (by simp), fun x hx => .inl hx⟩
/-- The list laid anew in its block. -/
theorem Nb.put {t et : TypeId} {b0 : Nat} {w w1 : World} {g : Nat} {most : Int} {v v' : Value} {xs xs' : List Value} {S : List Nat} {r : Value} (h : Nb t et b0 w g v most xs) (ht : et ≠ t) (hf : Fr S w w1) (hS : ∀ x ∈ S, v.ownBlock = some x) (hL : Lst w1 b0 et 1 v' xs'.length xs') (hv : ∀ k, v'.ownBlock = some k → v.ownBlock = some k ∨ w.heap.size ≤ k) :
    Bk w1 g t #[v, .int .i64 most] ∧ NbTo t et b0 g v most xs' r w (.returned r) (w1.setCell ⟨g, 0, none⟩ v') := by
  have hB1 := h.B.fr hf (fun hx => h.L.ne_bk h.B ht g (hS g hx) rfl)
  refine ⟨hB1, rfl, v', ⟨hB1.put 0 v', hL.far (hL.ne_bk hB1 ht) _, h.b⟩, (hf.mono (fun x hx => .inl (by simp [skT, hS x hx]))).setCell (.inl (by simp [skT])) _, fun x hx => ?_⟩
  simp only [skT, List.mem_cons, Option.mem_toList] at hx ⊢
  rcases hx with e | e
  · exact .inl (.inl e)
  · exact (hv x e).imp (fun h => .inr h) id
theorem own_or {u v : Value} {z n : Nat} (hz : n ≤ z) (h : v.ownBlock = u.ownBlock ∨ v.ownBlock = some z) : ∀ k, v.ownBlock = some k → u.ownBlock = some k ∨ n ≤ k := fun k hk => by
  rcases h with e | e
  · exact .inl (by rw [← e]; exact hk)
  · rw [e] at hk
    injection hk with hk
    exact .inr (by omega)

def newNP (b0 : Nat) (most : Int) (w : World) (e : Ending) (w' : World) : Prop :=
  ∃ g, e = .returned (.tuple #[.pointer (some ⟨g, 0, none⟩), .int .i64 0]) ∧ Nb 77 3 b0 w' g (.slice none 0 0) most [] ∧ Fr [] w w' ∧ w.heap.size ≤ g
theorem rnewN (b0 : Nat) (most : Int) (w : World) (h : 0 ≤ most) (hb : b0 ≤ w.heap.size) : Calls Tryz.prog 12 #[.int .i64 most] w (newNP b0 most w) := by
  have d0 : decide (most < 0) = false := decide_eq_false (by omega)
  go_enter Tryz.func12, Tryz.ntmps12
  go_wp2_with fail
  go_ret2
  exact ⟨w.heap.size, rfl, ⟨Bk.new _ _ _, Lst.nil _ _ _ _, hb⟩, (Fr.refl _ _).alloc _, Nat.le_refl _⟩
theorem rbadN (most : Int) (w : World) (h : most < 0) : Calls Tryz.prog 12 #[.int .i64 most] w fun e w' => e = .returned (.tuple #[.pointer none, .int .i64 10]) ∧ w = w' := by
  have d0 : decide (most < 0) = true := decide_eq_true h
  go_enter Tryz.func12, Tryz.ntmps12
  go_wp2_with fail
  go_ret2
  exact ⟨rfl, rfl⟩

def newTP (b0 : Nat) (most : Int) (w : World) (e : Ending) (w' : World) : Prop :=
  ∃ g, e = .returned (.tuple #[.pointer (some ⟨g, 0, none⟩), .int .i64 0]) ∧ Nb 79 9 b0 w' g (.slice none 0 0) most [] ∧ Fr [] w w' ∧ w.heap.size ≤ g
theorem rnewT (b0 : Nat) (most : Int) (w : World) (h : 0 ≤ most) (hb : b0 ≤ w.heap.size) : Calls Tryz.prog 19 #[.int .i64 most] w (newTP b0 most w) := by
  have d0 : decide (most < 0) = false := decide_eq_false (by omega)
  go_enter Tryz.func19, Tryz.ntmps19
  go_wp2_with fail
  go_ret2
  exact ⟨w.heap.size, rfl, ⟨Bk.new _ _ _, Lst.nil _ _ _ _, hb⟩, (Fr.refl _ _).alloc _, Nat.le_refl _⟩
theorem rbadT (most : Int) (w : World) (h : most < 0) : Calls Tryz.prog 19 #[.int .i64 most] w fun e w' => e = .returned (.tuple #[.pointer none, .int .i64 10]) ∧ w = w' := by
  have d0 : decide (most < 0) = true := decide_eq_true h
  go_enter Tryz.func19, Tryz.ntmps19
  go_wp2_with fail
  go_ret2
  exact ⟨rfl, rfl⟩

theorem rfull (b0 g : Nat) (v : Value) (most : Int) (xs : List Value) (w : World) (h : Nb 77 3 b0 w g v most xs) :
    Calls Tryz.prog 77 #[.pointer (some ⟨g, 0, none⟩)] w fun e w' => e = .returned (.bool (fullB xs.length most)) ∧ Fr [] w w' := by
  obtain ⟨A, cp, rfl, _, _⟩ := h.L.look
  have c0 : w.cell? ⟨g, 0, none⟩ = some (.slice A xs.length cp) := h.B.cell 0
  have c1 : w.cell? ⟨g, 1, none⟩ = some (.int .i64 most) := h.B.cell 1
  obtain ⟨n, hn⟩ : ∃ n, xs.length = n := ⟨_, rfl⟩
  rw [hn] at c0 ⊢
  clear h hn
  unfold fullB
  by_cases h0 : 0 < most
  · have d0 : decide (0 < most) = true := decide_eq_true h0
    by_cases h1 : most ≤ (n : Int)
    · have d1 : decide (most ≤ (n : Int)) = true := decide_eq_true h1
      rw [d0, d1]
      go_enter Tryz.func77, Tryz.ntmps77
      go_upto_region 1 with fail
      go_quiet (fail)
      go_wp2_with fail
      all_goals
        go_ret
        exact ⟨rfl, by repeat (first | exact Fr.refl _ _ | refine Fr.drewN ?_ _ | refine Fr.drew ?_)⟩
    · have d1 : decide (most ≤ (n : Int)) = false := decide_eq_false h1
      rw [d0, d1]
      go_enter Tryz.func77, Tryz.ntmps77
      go_upto_region 1 with fail
      go_quiet (fail)
      go_wp2_with fail
      all_goals
        go_ret
        exact ⟨rfl, by repeat (first | exact Fr.refl _ _ | refine Fr.drewN ?_ _ | refine Fr.drew ?_)⟩
  · have d0 : decide (0 < most) = false := decide_eq_false h0
    rw [d0]
    go_enter Tryz.func77, Tryz.ntmps77
    go_upto_region 1 with fail
    go_quiet (fail)
    go_wp2_with fail
    all_goals
      go_ret
      exact ⟨rfl, by repeat (first | exact Fr.refl _ _ | refine Fr.drewN ?_ _ | refine Fr.drew ?_)⟩

set_option maxRecDepth 100000 in
set_option maxHeartbeats 800000 in
theorem rputN (b0 g : Nat) (v : Value) (most : Int) (l : List Int) (x : Int) (w : World) (h : Nb 77 3 b0 w g v most (iV l)) (hl : l.length ≤ 1000000) (hb : b0 ≤ w.heap.size) :
    Calls Tryz.prog 40 #[.pointer (some ⟨g, 0, none⟩), .int .i64 x] w (NbTo 77 3 b0 g v most (iV (if fullB l.length most then l else l ++ [x])) (.int .i64 (if fullB l.length most then 11 else 0)) w) := by
  obtain ⟨i2, hi2, hz2, hs2, hb2⟩ := info_parts' int_info
  have HV0 := Lib.hid h
  obtain ⟨n, hn⟩ : ∃ n, l.length = n := ⟨_, rfl⟩
  have hL := h.L
  rw [iV_length, hn] at hL
  rw [hn] at hl ⊢
  obtain ⟨A, cp, rfl, _, _⟩ := hL.look
  have c0 : w.cell? ⟨g, 0, none⟩ = some (.slice A n cp) := by have := h.B.cell 0; exact this
  have HF := Lib.hid (rfull b0 g _ most _ w h)
  rw [iV_length, hn] at HF
  have HN := Lib.hid hn
  have HEND : Hid (∀ (z w1 : World) (v' : Value), Fr [] w z → Fr (Value.slice A n cp).ownBlock.toList z w1 → Lst w1 b0 3 1 v' (n + 1) (iV l ++ [.int .i64 x]) → (∀ k, v'.ownBlock = some k → (Value.slice A n cp).ownBlock = some k ∨ z.heap.size ≤ k) →
      Bk w1 g 77 #[.slice A n cp, .int .i64 most] ∧ NbTo 77 3 b0 g (.slice A n cp) most (iV (l ++ [x])) (.int .i64 0) w (.returned (.int .i64 0)) (w1.setCell ⟨g, 0, none⟩ v')) := fun z w1 v' f1 f2 hL' hv' => by
    have e : iV (l ++ [x]) = iV l ++ [.int .i64 x] := by unfold iV; rw [List.map_append]; rfl
    have el : (iV (l ++ [x])).length = n + 1 := by rw [iV_length, List.length_append, HN.out]; rfl
    refine HV0.out.put (by decide) (S := (Value.slice A n cp).ownBlock.toList) ((f1.mono (by simp)).trans f2 (fun k hk => .inl hk)) (fun k hk => by simpa using hk) (by rw [el, e]; exact hL') (fun k hk => (hv' k hk).imp id (fun hh => Nat.le_trans f1.size hh))
  have HL := Lib.hid hL
  clear h hn hL
  cases hB : fullB n most
  case true =>
    rw [hB] at HF
    clear hB
    go_enter Tryz.func40, Tryz.ntmps40
    go_wp2_with fail
    refine (Calls.mono HF.out ?_)
    rintro e z ⟨rfl, hfz⟩
    have HFZ := Lib.hid hfz
    clear hfz
    go_wp2_with fail
    go_ret
    exact NbTo.same HV0.out HFZ.out
  case false =>
    rw [hB] at HF
    clear hB
    go_enter Tryz.func40, Tryz.ntmps40
    go_wp2_with fail
    refine (Calls.mono HF.out ?_)
    rintro e z ⟨rfl, hfz⟩
    have HFZ := Lib.hid hfz
    have cz : z.cell? ⟨g, 0, none⟩ = some (.slice A n cp) := (HV0.out.fr hfz (by simp)).B.cell 0
    have hsz := hfz.size
    clear hfz
    go_wp2_with (at_builtin; refine wpList_append_lst _ rfl _ _ _ rfl b0 3 i2 _ 1 8 Tryz.underlying68 hi2 hz2 hs2 hb2 rfl (.slice A n cp) n (iV l) rfl ((HL.out.fr HFZ.out (by simp)).alloc _) ⟨z.heap.size, 0, none⟩ 1 1 [.int .i64 x] rfl rfl (World.news_of_block (heap_alloc_new _ _)) ?cA ?cB ?cC ?cD ?cE)
    case cA => simp [Value.oneCell']
    case cB => unfold maxLen; omega
    case cC => omega
    case cD => first | omega | (simp; omega)
    case cE =>
      intro v2 w7 hown hgrow hat
      have HQ := HEND.out z w7 v2 HFZ.out (((Fr.refl _ _).alloc _).grown hgrow (fun j hj => .inl (by simp [hj]))) hown (own_or (by simp) hat)
      have HQ2 := Lib.hid HQ.2
      have c7 := HQ.1.cell 0
      have f7 := HQ.1.free 0
      obtain ⟨A2, cap2, rfl, _, _⟩ := hown.look
      clear hown hgrow hat HQ
      go_wp2_with fail
      go_ret
      exact HQ2.out
set_option maxRecDepth 100000 in
set_option maxHeartbeats 800000 in
theorem rputT (b0 g : Nat) (v : Value) (most : Int) (l : List ByteArray) (x : ByteArray) (w : World) (h : Nb 79 9 b0 w g v most (sV l)) (hl : l.length ≤ 1000000) (hb : b0 ≤ w.heap.size) :
    Calls Tryz.prog 47 #[.pointer (some ⟨g, 0, none⟩), .string x] w (NbTo 79 9 b0 g v most (sV (if fullB l.length most then l else l ++ [x])) (.int .i64 (if fullB l.length most then 11 else 0)) w) := by
  obtain ⟨i2, hi2, hz2, hs2, hb2⟩ := info_parts' str_info
  have HV0 := Lib.hid h
  obtain ⟨n, hn⟩ : ∃ n, l.length = n := ⟨_, rfl⟩
  have hL := h.L
  rw [sV_length, hn] at hL
  rw [hn] at hl ⊢
  obtain ⟨A, cp, rfl, _, _⟩ := hL.look
  have c0 : w.cell? ⟨g, 0, none⟩ = some (.slice A n cp) := by have := h.B.cell 0; exact this
  have c1 : w.cell? ⟨g, 1, none⟩ = some (.int .i64 most) := by have := h.B.cell 1; exact this
  have hfu : fullB n most = (decide (0 < most) && decide (most ≤ (n : Int))) := rfl
  have HN := Lib.hid hn
  have HEND : Hid (∀ (z w1 : World) (v' : Value), Fr [] w z → Fr (Value.slice A n cp).ownBlock.toList z w1 → Lst w1 b0 9 1 v' (n + 1) (sV l ++ [.string x]) → (∀ k, v'.ownBlock = some k → (Value.slice A n cp).ownBlock = some k ∨ z.heap.size ≤ k) →
      Bk w1 g 79 #[.slice A n cp, .int .i64 most] ∧ NbTo 79 9 b0 g (.slice A n cp) most (sV (l ++ [x])) (.int .i64 0) w (.returned (.int .i64 0)) (w1.setCell ⟨g, 0, none⟩ v')) := fun z w1 v' f1 f2 hL' hv' => by
    have e : sV (l ++ [x]) = sV l ++ [.string x] := by unfold sV; rw [List.map_append]; rfl
    have el : (sV (l ++ [x])).length = n + 1 := by rw [sV_length, List.length_append, HN.out]; rfl
    refine HV0.out.put (by decide) (S := (Value.slice A n cp).ownBlock.toList) ((f1.mono (by simp)).trans f2 (fun k hk => .inl hk)) (fun k hk => by simpa using hk) (by rw [el, e]; exact hL') (fun k hk => (hv' k hk).imp id (fun hh => Nat.le_trans f1.size hh))
  have HL := Lib.hid hL
  clear h hn hL
  by_cases h0 : 0 < most ∧ most ≤ (n : Int)
  · have hB : fullB n most = true := by rw [hfu]; simp [h0.1, h0.2]
    have d0 : decide (0 < most) = true := decide_eq_true h0.1
    have d1 : decide (most ≤ (n : Int)) = true := decide_eq_true h0.2
    rw [hB]
    clear hfu hB
    go_enter Tryz.func47, Tryz.ntmps47
    go_upto_region 1 with fail
    go_quiet (fail)
    go_wp2_with fail
    go_ret
    exact NbTo.same HV0.out (by repeat (first | exact Fr.refl _ _ | refine Fr.drewN ?_ _ | refine Fr.drew ?_))
  · have hB : fullB n most = false := by
      rw [hfu]
      by_cases h1 : 0 < most
      · simp [h1]; omega
      · simp [h1]
    rw [hB]
    clear hfu hB
    by_cases h1 : 0 < most
    · have d0 : decide (0 < most) = true := decide_eq_true h1
      have d1 : decide (most ≤ (n : Int)) = false := decide_eq_false (by omega)
      go_enter Tryz.func47, Tryz.ntmps47
      go_upto_region 1 with fail
      go_quiet (fail)
      rename_i nq _
      obtain ⟨z, hz⟩ : ∃ z, z = w.drewN nq := ⟨_, rfl⟩
      have hfz : Fr [] w z := by rw [hz]; exact (Fr.refl _ _).drewN _
      have HFZ := Lib.hid hfz
      have cz : z.cell? ⟨g, 0, none⟩ = some (.slice A n cp) := (HV0.out.fr hfz (by simp)).B.cell 0
      have hsz := hfz.size
      rw [← hz]
      clear hfz hz
      go_wp2_with (at_builtin; refine wpList_append_lst _ rfl _ _ _ rfl b0 9 i2 _ 1 16 Tryz.underlying72 hi2 hz2 hs2 hb2 rfl (.slice A n cp) n (sV l) rfl ((HL.out.fr HFZ.out (by simp)).alloc _) ⟨z.heap.size, 0, none⟩ 1 1 [.string x] rfl rfl (World.news_of_block (heap_alloc_new _ _)) ?cxA ?cxB ?cxC ?cxD ?cxE)
      case cxA => simp [Value.oneCell']
      case cxB => unfold maxLen; omega
      case cxC => omega
      case cxD => first | omega | (simp; omega)
      case cxE =>
        intro v2 w7 hown hgrow hat
        have HQ := HEND.out z w7 v2 HFZ.out (((Fr.refl _ _).alloc _).grown hgrow (fun j hj => .inl (by simp [hj]))) hown (own_or (by simp) hat)
        have HQ2 := Lib.hid HQ.2
        have c7 := HQ.1.cell 0
        have f7 := HQ.1.free 0
        obtain ⟨A2, cap2, rfl, _, _⟩ := hown.look
        clear hown hgrow hat HQ
        go_wp2_with fail
        go_ret
        exact HQ2.out
    · have d0 : decide (0 < most) = false := decide_eq_false h1
      go_enter Tryz.func47, Tryz.ntmps47
      go_upto_region 1 with fail
      go_quiet (fail)
      rename_i nq _
      obtain ⟨z, hz⟩ : ∃ z, z = w.drewN nq := ⟨_, rfl⟩
      have hfz : Fr [] w z := by rw [hz]; exact (Fr.refl _ _).drewN _
      have HFZ := Lib.hid hfz
      have cz : z.cell? ⟨g, 0, none⟩ = some (.slice A n cp) := (HV0.out.fr hfz (by simp)).B.cell 0
      have hsz := hfz.size
      rw [← hz]
      clear hfz hz
      go_wp2_with (at_builtin; refine wpList_append_lst _ rfl _ _ _ rfl b0 9 i2 _ 1 16 Tryz.underlying72 hi2 hz2 hs2 hb2 rfl (.slice A n cp) n (sV l) rfl ((HL.out.fr HFZ.out (by simp)).alloc _) ⟨z.heap.size, 0, none⟩ 1 1 [.string x] rfl rfl (World.news_of_block (heap_alloc_new _ _)) ?cyA ?cyB ?cyC ?cyD ?cyE)
      case cyA => simp [Value.oneCell']
      case cyB => unfold maxLen; omega
      case cyC => omega
      case cyD => first | omega | (simp; omega)
      case cyE =>
        intro v2 w7 hown hgrow hat
        have HQ := HEND.out z w7 v2 HFZ.out (((Fr.refl _ _).alloc _).grown hgrow (fun j hj => .inl (by simp [hj]))) hown (own_or (by simp) hat)
        have HQ2 := Lib.hid HQ.2
        have c7 := HQ.1.cell 0
        have f7 := HQ.1.free 0
        obtain ⟨A2, cap2, rfl, _, _⟩ := hown.look
        clear hown hgrow hat HQ
        go_wp2_with fail
        go_ret
        exact HQ2.out
end Go.Proofs.YtdjaalkbpdmdgaaGreat
