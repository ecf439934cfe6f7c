/-
  Bag, the document's answer: Push, First, Take.
-/
import Derived.Test.YtdjaalkbpdmdgaaGreatBgR1
namespace Go.Proofs.YtdjaalkbpdmdgaaGreat
open Go.RowKit
set_option linter.unusedVariables false

theorem Lst.one {w : World} {base k : Nat} {e : TypeId} {u : Value} (hb : Bk w k e #[u]) (hk : base ≤ k) : Lst w base e 1 (.slice (some ⟨k, 0, none⟩) 1 1) 1 [u] :=
  ⟨rfl, .inr ⟨k, 0, 1, #[u], rfl, hk, hb, Nat.le_refl _, by unfold maxLen; omega, by simp, by simp⟩⟩

set_option maxRecDepth 100000 in
set_option maxHeartbeats 800000 in
theorem rpushN (b0 g : Nat) (v : Value) (most : Int) (l : List Int) (x : Int) (w : World) (h : Nb 77 3 b0 w g v most (iV l)) (hl : l.length ≤ 1000000) (hb : b0 ≤ w.heap.size) :
    Calls Tryz.prog 31 #[.pointer (some ⟨g, 0, none⟩), .int .i64 x] w (NbTo 77 3 b0 g v most (iV (if fullB l.length most then l else x :: l)) (.int .i64 (if fullB l.length most then 11 else 0)) w) := by
  obtain ⟨i2, hi2, hz2, hs2, hb2⟩ := info_parts' int_info
  have HV0 := Lib.hid h
  obtain ⟨n, hn⟩ : ∃ n, l.length = n := ⟨_, rfl⟩
  have HF := Lib.hid (rfull b0 g _ most _ w h)
  rw [iV_length, hn] at HF
  rw [hn] at hl ⊢
  have HN := Lib.hid hn
  clear h hn
  cases hB : fullB n most
  case true =>
    rw [hB] at HF
    clear hB
    go_enter Tryz.func31, Tryz.ntmps31
    go_wp2_with fail
    refine (Calls.mono HF.out ?_)
    rintro e z ⟨rfl, hfz⟩
    have HFZ := Lib.hid hfz
    clear hfz
    go_wp2_with fail
    go_ret
    exact NbTo.same HV0.out HFZ.out
  case false =>
    rw [hB] at HF
    clear hB
    have HCL : Hid (∀ Z, Fr [] w Z → ∃ A cp, v = .slice A n cp ∧ Z.cell? ⟨g, 0, none⟩ = some (.slice A n cp) ∧ Z.frozen? ⟨g, 0, none⟩ = false ∧ Lst Z b0 3 1 (.slice A n cp) n (iV l)) := fun Z hf => by
      have hz := HV0.out.fr hf (by simp)
      have hL := hz.L
      rw [iV_length, HN.out] at hL
      obtain ⟨A, cp, rfl, _, _⟩ := hL.look
      exact ⟨A, cp, rfl, hz.B.cell 0, hz.B.free 0, hL⟩
    have HEND : Hid (∀ (w1 : World) (v' : Value), Fr [] w w1 → Lst w1 w.heap.size 3 1 v' (n + 1) (iV (x :: l)) → NbTo 77 3 b0 g v most (iV (x :: l)) (.int .i64 0) w (.returned (.int .i64 0)) (w1.setCell ⟨g, 0, none⟩ v')) := fun w1 v' hf hL => by
      have el : (iV (x :: l)).length = n + 1 := by rw [iV_length, List.length_cons, HN.out]
      exact (HV0.out.put (by decide) (S := []) hf (by simp) (by rw [el]; exact hL.mono hb) (fun k hk => .inr (hL.lt k hk).1)).2
    go_enter Tryz.func31, Tryz.ntmps31
    go_wp2_with fail
    refine (Calls.mono HF.out ?_)
    rintro e z ⟨rfl, hfz⟩
    have HFZ := Lib.hid hfz
    have hsz := hfz.size
    clear hfz
    go_wp2_with fail
    go_loopw [5, 6] (fun v j wr => ∃ k : Nat, k ≤ n ∧ j = .int .i64 k ∧ Hid (Lst wr w.heap.size 3 1 v (k + 1) (iV (x :: l.take k)) ∧ Fr [] w wr)) (fun _ j _ => n - (intOf j).toNat)
    case atStart => exact ⟨0, by omega, rfl, Lst.one (Bk.new _ _ _) hsz, HFZ.out.alloc _⟩
    case round =>
      obtain ⟨k, hk, rfl, hx⟩ := hrel
      have HL := Lib.hid hx.out.1
      have HW := Lib.hid hx.out.2
      clear hx
      obtain ⟨A, cp, hv, c0, f0, hL0⟩ := HCL.out _ HW.out
      have hws := HW.out.size
      by_cases hlt : k < n
      · obtain ⟨y, hy⟩ : ∃ y, l[k]? = some y := ⟨_, List.getElem?_eq_getElem (by have := HN.out; omega)⟩
        obtain ⟨gb, off, cap, hq, _, _, _, _, _, _, hcl⟩ := hL0.form (by omega)
        injection hq with hq1 hq2 hq3
        subst hq1 hq3
        have cy := hcl k _ (iV_at hy)
        have HTK : Hid (iV (x :: l.take (k + 1)) = iV (x :: l.take k) ++ [.int .i64 y]) := by
          obtain ⟨q1, q2⟩ := List.getElem?_eq_some_iff.1 hy
          show _ = _
          rw [List.take_succ_eq_append_getElem q1, q2]
          unfold iV
          simp
        have k1 : (0 : Int) ≤ (k : Int) := by omega
        have k2 : (k : Int) < (n : Int) := by omega
        clear hy hcl hq2 hv hL0
        go_wp2_with (at_builtin; refine wpList_append_lst _ rfl (.tmp 20) (.tmp 28) _ rfl w.heap.size 3 i2 _ 1 8 Tryz.underlying68 hi2 hz2 hs2 hb2 rfl _ (k + 1) (iV (x :: l.take k)) rfl (HL.out.alloc _) ⟨wr.heap.size, 0, none⟩ 1 1 [.int .i64 y] rfl rfl (World.news_of_block (heap_alloc_new _ _)) ?c2 ?c3 ?c4 ?c5 ?c6)
        case c2 => simp [Value.oneCell']
        case c3 => unfold maxLen; omega
        case c4 => omega
        case c5 => first | omega | (simp; omega)
        case c6 =>
          intro v2 w2 hown hgrow hat
          have HX : Hid (Lst w2 w.heap.size 3 1 v2 (k + 1 + 1) (iV (x :: l.take (k + 1))) ∧ Fr [] w w2) := by
            refine ⟨?_, (HW.out.alloc _).grown hgrow (fun j hj => .inr (HL.out.lt j hj).1)⟩
            rw [HTK.out]
            exact hown
          clear hown hgrow hat
          go_wp2
          go_roundw
          case rel => exact ⟨k + 1, by omega, by go_num, HX.out⟩
          case measure => simp [intOf]; omega
      · obtain rfl : n = k := by omega
        have hall : l.take n = l := List.take_of_length_le (by have := HN.out; omega)
        rw [hall] at HL
        have HE := Lib.hid (HEND.out wr _ HW.out HL.out)
        obtain ⟨A5, c5, rfl, _, _⟩ := HL.out.look
        have k3 : decide ((n : Int) < (n : Int)) = false := decide_eq_false (by omega)
        clear hall hlt hk hv hL0
        go_wp2_with fail
        go_ret
        exact HE.out


set_option maxRecDepth 100000 in
theorem rnoneN (b0 g : Nat) (v : Value) (most : Int) (w : World) (h : Nb 77 3 b0 w g v most []) :
    Calls Tryz.prog 33 #[.pointer (some ⟨g, 0, none⟩)] w fun e w' => e = .returned (.tuple #[.int .i64 0, .bool false]) ∧ w = w' := by
  obtain ⟨A, cp, rfl, _, _⟩ := h.L.look
  have c0 : w.cell? ⟨g, 0, none⟩ = some (.slice A 0 cp) := h.B.cell 0
  clear h
  go_enter Tryz.func33, Tryz.ntmps33
  go_wp2_with fail
  go_ret2
  exact ⟨rfl, rfl⟩

set_option maxRecDepth 100000 in
set_option maxHeartbeats 800000 in
theorem rtakeN (b0 g : Nat) (v : Value) (most : Int) (l : List Int) (x : Int) (w : World) (h : Nb 77 3 b0 w g v most (iV (x :: l))) (hl : l.length ≤ 1000000) (hb : b0 ≤ w.heap.size) :
    Calls Tryz.prog 33 #[.pointer (some ⟨g, 0, none⟩)] w (NbTo 77 3 b0 g v most (iV l) (.tuple #[.int .i64 x, .bool true]) w) := by
  obtain ⟨i2, hi2, hz2, hs2, hb2⟩ := info_parts' int_info
  have HV0 := Lib.hid h
  obtain ⟨n, hn⟩ : ∃ n, l.length = n := ⟨_, rfl⟩
  rw [hn] at hl
  have HN := Lib.hid hn
  have HCL : Hid (∀ Z, Fr [] w Z → ∃ A off cp, v = .slice (some ⟨A, off, none⟩) (n + 1) cp ∧ Z.cell? ⟨g, 0, none⟩ = some (.slice (some ⟨A, off, none⟩) (n + 1) cp) ∧ Z.frozen? ⟨g, 0, none⟩ = false ∧ ∀ j u, (iV (x :: l))[j]? = some u → Z.cell? ⟨A, off + j, none⟩ = some u) := fun Z hf => by
    have hz := HV0.out.fr hf (by simp)
    have hL := hz.L
    rw [iV_length, List.length_cons, HN.out] at hL
    obtain ⟨gb, off, cap, hq, _, _, _, _, _, _, hcl⟩ := hL.form (by omega)
    exact ⟨gb, off, cap, hq, by rw [← hq]; exact hz.B.cell 0, hz.B.free 0, hcl⟩
  have HEND : Hid (∀ (w1 : World) (v' : Value), Fr [] w w1 → Lst w1 w.heap.size 3 1 v' n (iV l) → NbTo 77 3 b0 g v most (iV l) (.tuple #[.int .i64 x, .bool true]) w (.returned (.tuple #[.int .i64 x, .bool true])) (w1.setCell ⟨g, 0, none⟩ v')) := fun w1 v' hf hL => by
    have el : (iV l).length = n := by rw [iV_length, HN.out]
    exact (HV0.out.put (by decide) (S := []) hf (by simp) (by rw [el]; exact hL.mono hb) (fun k hk => .inr (hL.lt k hk).1)).2
  obtain ⟨A, off, cp, hv, c0, f0, hc⟩ := HCL.out w (Fr.refl _ _)
  have cx : w.cell? ⟨A, off, none⟩ = some (.int .i64 x) := hc 0 _ rfl
  have hz1 : (((n + 1 : Nat) : Int) == 0) = false := by simpa using (show ¬ ((n + 1 : Nat) : Int) = 0 by omega)
  have hz2' : (((n : Int) + 1) == 0) = false := by simpa using (show ¬ (n : Int) + 1 = 0 by omega)
  have hz3 : (0 : Int) < ((n + 1 : Nat) : Int) := by omega
  have hz4 : (0 : Int) < (n : Int) + 1 := by omega
  have HVE := Lib.hid hv
  clear h hn hv hc
  go_enter Tryz.func33, Tryz.ntmps33
  go_wp2_with fail
  go_loopw [5, 6] (fun v j wr => ∃ k : Nat, k ≤ n ∧ j = .int .i64 (k + 1 : Nat) ∧ Hid (Lst wr w.heap.size 3 1 v k (iV (l.take k)) ∧ Fr [] w wr)) (fun _ j _ => n + 1 - (intOf j).toNat)
  case atStart => exact ⟨0, by omega, rfl, Lst.nil _ _ _ _, Fr.refl _ _⟩
  case round =>
    obtain ⟨k, hk, rfl, hx⟩ := hrel
    have HL := Lib.hid hx.out.1
    have HW := Lib.hid hx.out.2
    clear hx c0 f0
    obtain ⟨A', off', cp', hv, c0, f0, hc⟩ := HCL.out _ HW.out
    rw [HVE.out] at hv
    injection hv with hv1 hv2 hv3
    injection hv1 with hv1
    injection hv1 with hv1 hv4
    subst hv1 hv3 hv4
    have hws := HW.out.size
    by_cases hlt : k < n
    · obtain ⟨y, hy⟩ : ∃ y, l[k]? = some y := ⟨_, List.getElem?_eq_getElem (by have := HN.out; omega)⟩
      have cy := hc (k + 1) (.int .i64 y) (iV_at (by simpa using hy))
      have HTK : Hid (iV (l.take (k + 1)) = iV (l.take k) ++ [.int .i64 y]) := by
        obtain ⟨q1, q2⟩ := List.getElem?_eq_some_iff.1 hy
        show _ = _
        rw [List.take_succ_eq_append_getElem q1, q2]
        unfold iV
        rw [List.map_append]
        rfl
      have k1 : (0 : Int) ≤ ((k + 1 : Nat) : Int) := by omega
      have k2 : ((k + 1 : Nat) : Int) < ((n + 1 : Nat) : Int) := by omega
      have k3 : (0 : Int) ≤ (k : Int) + 1 := by omega
      have k4 : (k : Int) + 1 < (n : Int) + 1 := by omega
      have cy2 := cy
      rw [← Nat.add_assoc] at cy2
      clear hy hc hv2
      go_wp2_with (at_builtin; refine wpList_append_lst _ rfl (.tmp 28) (.tmp 36) _ rfl w.heap.size 3 i2 _ 1 8 Tryz.underlying68 hi2 hz2 hs2 hb2 rfl _ k (iV (l.take k)) rfl (HL.out.alloc _) ⟨wr.heap.size, 0, none⟩ 1 1 [.int .i64 y] rfl rfl (World.news_of_block (heap_alloc_new _ _)) ?c2 ?c3 ?c4 ?c5 ?c6)
      case c2 => simp [Value.oneCell']
      case c3 => unfold maxLen; omega
      case c4 => omega
      case c5 => first | omega | (simp; omega)
      case c6 =>
        intro v2 w2 hown hgrow hat
        have HX : Hid (Lst w2 w.heap.size 3 1 v2 (k + 1) (iV (l.take (k + 1))) ∧ Fr [] w w2) := by
          refine ⟨?_, (HW.out.alloc _).grown hgrow (fun j hj => .inr (HL.out.lt j hj).1)⟩
          rw [HTK.out]
          exact hown
        clear hown hgrow hat
        go_wp2
        go_roundw
        case rel => exact ⟨k + 1, by omega, by go_num, HX.out⟩
        case measure => simp [intOf]; omega
    · obtain rfl : n = k := by omega
      have hall : l.take n = l := List.take_of_length_le (by have := HN.out; omega)
      rw [hall] at HL
      have HE := Lib.hid (HEND.out wr _ HW.out HL.out)
      obtain ⟨A5, c5, rfl, _, _⟩ := HL.out.look
      have k3 : decide (((n + 1 : Nat) : Int) < ((n + 1 : Nat) : Int)) = false := decide_eq_false (by omega)
      clear hall hlt hk hc hv2
      go_wp2_with fail
      go_ret2
      exact HE.out


set_option maxRecDepth 100000 in
theorem rnoneT (b0 g : Nat) (v : Value) (most : Int) (w : World) (h : Nb 79 9 b0 w g v most []) :
    Calls Tryz.prog 49 #[.pointer (some ⟨g, 0, none⟩)] w fun e w' => e = .returned (.tuple #[.string ⟨#[]⟩, .bool false]) ∧ w = w' := by
  obtain ⟨A, cp, rfl, _, _⟩ := h.L.look
  have c0 : w.cell? ⟨g, 0, none⟩ = some (.slice A 0 cp) := h.B.cell 0
  clear h
  go_enter Tryz.func49, Tryz.ntmps49
  go_wp2_with fail
  go_ret2
  exact ⟨rfl, rfl⟩

set_option maxRecDepth 100000 in
set_option maxHeartbeats 800000 in
theorem rtakeT (b0 g : Nat) (v : Value) (most : Int) (l : List ByteArray) (x : ByteArray) (w : World) (h : Nb 79 9 b0 w g v most (sV (x :: l))) (hl : l.length ≤ 1000000) (hb : b0 ≤ w.heap.size) :
    Calls Tryz.prog 49 #[.pointer (some ⟨g, 0, none⟩)] w (NbTo 79 9 b0 g v most (sV l) (.tuple #[.string x, .bool true]) w) := by
  obtain ⟨i2, hi2, hz2, hs2, hb2⟩ := info_parts' str_info
  have HV0 := Lib.hid h
  obtain ⟨n, hn⟩ : ∃ n, l.length = n := ⟨_, rfl⟩
  rw [hn] at hl
  have HN := Lib.hid hn
  have HCL : Hid (∀ Z, Fr [] w Z → ∃ A off cp, v = .slice (some ⟨A, off, none⟩) (n + 1) cp ∧ Z.cell? ⟨g, 0, none⟩ = some (.slice (some ⟨A, off, none⟩) (n + 1) cp) ∧ Z.frozen? ⟨g, 0, none⟩ = false ∧ ∀ j u, (sV (x :: l))[j]? = some u → Z.cell? ⟨A, off + j, none⟩ = some u) := fun Z hf => by
    have hz := HV0.out.fr hf (by simp)
    have hL := hz.L
    rw [sV_length, List.length_cons, HN.out] at hL
    obtain ⟨gb, off, cap, hq, _, _, _, _, _, _, hcl⟩ := hL.form (by omega)
    exact ⟨gb, off, cap, hq, by rw [← hq]; exact hz.B.cell 0, hz.B.free 0, hcl⟩
  have HEND : Hid (∀ (w1 : World) (v' : Value), Fr [] w w1 → Lst w1 w.heap.size 9 1 v' n (sV l) → NbTo 79 9 b0 g v most (sV l) (.tuple #[.string x, .bool true]) w (.returned (.tuple #[.string x, .bool true])) (w1.setCell ⟨g, 0, none⟩ v')) := fun w1 v' hf hL => by
    have el : (sV l).length = n := by rw [sV_length, HN.out]
    exact (HV0.out.put (by decide) (S := []) hf (by simp) (by rw [el]; exact hL.mono hb) (fun k hk => .inr (hL.lt k hk).1)).2
  obtain ⟨A, off, cp, hv, c0, f0, hc⟩ := HCL.out w (Fr.refl _ _)
  have cx : w.cell? ⟨A, off, none⟩ = some (.string x) := hc 0 _ rfl
  have hz1 : (((n + 1 : Nat) : Int) == 0) = false := by simpa using (show ¬ ((n + 1 : Nat) : Int) = 0 by omega)
  have hz2' : (((n : Int) + 1) == 0) = false := by simpa using (show ¬ (n : Int) + 1 = 0 by omega)
  have hz3 : (0 : Int) < ((n + 1 : Nat) : Int) := by omega
  have hz4 : (0 : Int) < (n : Int) + 1 := by omega
  have HVE := Lib.hid hv
  clear h hn hv hc
  go_enter Tryz.func49, Tryz.ntmps49
  go_wp2_with fail
  go_loopw [5, 6] (fun v j wr => ∃ k : Nat, k ≤ n ∧ j = .int .i64 (k + 1 : Nat) ∧ Hid (Lst wr w.heap.size 9 1 v k (sV (l.take k)) ∧ Fr [] w wr)) (fun _ j _ => n + 1 - (intOf j).toNat)
  case atStart => exact ⟨0, by omega, rfl, Lst.nil _ _ _ _, Fr.refl _ _⟩
  case round =>
    obtain ⟨k, hk, rfl, hx⟩ := hrel
    have HL := Lib.hid hx.out.1
    have HW := Lib.hid hx.out.2
    clear hx c0 f0
    obtain ⟨A', off', cp', hv, c0, f0, hc⟩ := HCL.out _ HW.out
    rw [HVE.out] at hv
    injection hv with hv1 hv2 hv3
    injection hv1 with hv1
    injection hv1 with hv1 hv4
    subst hv1 hv3 hv4
    have hws := HW.out.size
    by_cases hlt : k < n
    · obtain ⟨y, hy⟩ : ∃ y, l[k]? = some y := ⟨_, List.getElem?_eq_getElem (by have := HN.out; omega)⟩
      have cy := hc (k + 1) (.string y) (sV_at (by simpa using hy))
      have HTK : Hid (sV (l.take (k + 1)) = sV (l.take k) ++ [.string y]) := by
        obtain ⟨q1, q2⟩ := List.getElem?_eq_some_iff.1 hy
        show _ = _
        rw [List.take_succ_eq_append_getElem q1, q2]
        unfold sV
        rw [List.map_append]
        rfl
      have k1 : (0 : Int) ≤ ((k + 1 : Nat) : Int) := by omega
      have k2 : ((k + 1 : Nat) : Int) < ((n + 1 : Nat) : Int) := by omega
      have k3 : (0 : Int) ≤ (k : Int) + 1 := by omega
      have k4 : (k : Int) + 1 < (n : Int) + 1 := by omega
      have cy2 := cy
      rw [← Nat.add_assoc] at cy2
      clear hy hc hv2
      go_wp2_with (at_builtin; refine wpList_append_lst _ rfl (.tmp 28) (.tmp 36) _ rfl w.heap.size 9 i2 _ 1 16 Tryz.underlying72 hi2 hz2 hs2 hb2 rfl _ k (sV (l.take k)) rfl (HL.out.alloc _) ⟨wr.heap.size, 0, none⟩ 1 1 [.string y] rfl rfl (World.news_of_block (heap_alloc_new _ _)) ?c2 ?c3 ?c4 ?c5 ?c6)
      case c2 => simp [Value.oneCell']
      case c3 => unfold maxLen; omega
      case c4 => omega
      case c5 => first | omega | (simp; omega)
      case c6 =>
        intro v2 w2 hown hgrow hat
        have HX : Hid (Lst w2 w.heap.size 9 1 v2 (k + 1) (sV (l.take (k + 1))) ∧ Fr [] w w2) := by
          refine ⟨?_, (HW.out.alloc _).grown hgrow (fun j hj => .inr (HL.out.lt j hj).1)⟩
          rw [HTK.out]
          exact hown
        clear hown hgrow hat
        go_wp2
        go_roundw
        case rel => exact ⟨k + 1, by omega, by go_num, HX.out⟩
        case measure => simp [intOf]; omega
    · obtain rfl : n = k := by omega
      have hall : l.take n = l := List.take_of_length_le (by have := HN.out; omega)
      rw [hall] at HL
      have HE := Lib.hid (HEND.out wr _ HW.out HL.out)
      obtain ⟨A5, c5, rfl, _, _⟩ := HL.out.look
      have k3 : decide (((n + 1 : Nat) : Int) < ((n + 1 : Nat) : Int)) = false := decide_eq_false (by omega)
      clear hall hlt hk hc hv2
      go_wp2_with fail
      go_ret2
      exact HE.out

end Go.Proofs.YtdjaalkbpdmdgaaGreat
