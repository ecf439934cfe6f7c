/-
  Roots in general: All.
-/
import Derived.Test.YtdcppdgnekhcgaaGreatDoorRtS10
import Derived.Shelf.Abstract
namespace Go.Proofs.YtdcppdgnekhcgaaGreatDoor
open Go.RowKit
set_option maxRecDepth 100000
set_option linter.unusedVariables false

def VL (bl n₀ : Nat) (pre : List Int) (W : World) : Prop := ∃ v, Bk W bl 91 #[v] ∧ Lst W n₀ 3 1 v pre.length (iV pre)
def same1 (_ : List Int) (x : Int) : Int := x

theorem set_same {cs : Array Value} {i : Nat} {u : Value} (h : cs[i]? = some u) : cs.setIfInBounds i u = cs := by
  apply Array.ext_getElem?
  intro j
  rw [Array.getElem?_setIfInBounds]
  split
  · rename_i hij
    subst hij
    split
    · exact h.symm
    · rename_i hge
      rw [Array.getElem?_eq_none (by omega)]
  · rfl

set_option maxRecDepth 100000 in
set_option maxHeartbeats 1600000 in
theorem list_vis (bl n₀ : Nat) (hbl : bl < n₀) : Vis n₀ 10000000000000 [bl] 54 #[.pointer (some ⟨bl, 0, none⟩)] (VL bl n₀) same1 := by
  intro pre x b i t cs W hlen hs hn hb hc h0 hbn hbD
  obtain ⟨v, hB, hL⟩ := hs
  obtain ⟨A, cp, rfl, _, _⟩ := hL.look
  have hne : b ≠ bl := by simpa using hbD
  have hcs : cs.setIfInBounds i (.int .i64 (same1 pre x)) = cs := set_same hc
  rw [hcs]
  have cx : W.cell? ⟨b, i, none⟩ = some (.int .i64 x) := by rw [hb.cell, hc]
  have cl : W.cell? ⟨bl, 0, none⟩ = some (.slice A pre.length cp) := hB.cell 0
  obtain ⟨n, hn1⟩ : ∃ n, pre.length = n := ⟨_, rfl⟩
  have HP : Hid (∀ (v' : Value) (w1 : World), Lst w1 n₀ 3 1 v' (n + 1) (iV pre ++ [.int .i64 x]) → Fr ((Value.slice A n cp).ownBlock.toList) W w1 → w1.cell? ⟨bl, 0, none⟩ = some (.slice A n cp) ∧ w1.frozen? ⟨bl, 0, none⟩ = false ∧ w1.cell? ⟨b, i, none⟩ = some (.int .i64 x) ∧
      (VL bl n₀ (pre ++ [x]) (w1.setCell ⟨bl, 0, none⟩ v') ∧ Bk (w1.setCell ⟨bl, 0, none⟩ v') b t cs ∧ Kb n₀ (b :: [bl]) W (w1.setCell ⟨bl, 0, none⟩ v'))) := fun v' w1 hl' hf => by
    rw [hn1] at hL hB
    have hlo := hL.lt
    have off : ∀ z, z < n₀ → z ∉ (Value.slice A n cp).ownBlock.toList := fun z hz hx => by have := (hlo z (by simpa using hx)).1; omega
    have hB1 := hB.fr hf (off bl hbl)
    have hb1 := hb.fr hf (off b hbn)
    have hvn : ∀ k, v'.ownBlock = some k → k ≠ bl := hl'.ne_bk hB1 (by decide)
    refine ⟨hB1.cell 0, hB1.free 0, by rw [hb1.cell, hc], ⟨v', hB1.put 0 v', ?_⟩, hb1.far (p := ⟨bl, 0, none⟩) hne v', ?_⟩
    · have := hl'.far (p := ⟨bl, 0, none⟩) hvn v'
      unfold iV at this ⊢
      rw [List.length_append, List.map_append, hn1]
      exact this
    · refine (hf.kb (fun z hz => .inr (hlo z (by simpa using hz)).1)).trans ?_
      exact Fr.kb (S := [bl]) ((Fr.refl _ _).setCell (by simp) _) (by simp)
  have HL := Lib.hid hL
  rw [hn1] at HL
  rw [hn1] at cl hlen
  obtain ⟨i2, hi2, hz2, hs2, hb2⟩ := info_parts int_info
  have HLW : Hid (∀ {Z : World}, Fr [] W Z → Lst Z n₀ 3 1 (.slice A n cp) n (iV pre)) := fun {Z} hf => HL.out.fr hf (by simp)
  have lb := hb.lt
  have lbl := hB.lt
  clear hB hL hb hc hcs hbD hn1
  show Calls Tryz.prog 54 #[.pointer (some ⟨bl, 0, none⟩), .pointer (some ⟨b, i, none⟩)] W _
  go_enter Tryz.func54, Tryz.ntmps54
  go_upto_region 0 with fail
  go_region_law
    ((refine step_append_lst _ (by rfl) _ _ _ (by rfl) n₀ 3 i2 _ 1 8 Tryz.underlying29 hi2 hz2 hs2 hb2 rfl (.slice A n cp) n (iV pre) (by rfl) (HLW.out (by repeat (first | exact Fr.refl _ _ | refine Fr.drew ?_ | refine Fr.alloc ?_ _)))
        ⟨W.heap.size, 0, none⟩ 1 1 [.int .i64 x] (by rfl) (by rfl) (World.news_of_block (cs := #[.int .i64 x]) (t := 3) (fr := (0, 0)) (Bk.new_at _ _ _ _ (by simp))) (by simp [Value.oneCell'])
        (by unfold maxLen; omega) (by omega) (by first | omega | (simp; omega)) ?_; intro v2 w1 hown1 hgrow hat; have hq := HP.out v2 w1 hown1 (by refine Fr.grown ?_ hgrow (fun k hk => .inl (by simp [hk])); repeat (first | exact Fr.refl _ _ | refine Fr.drew ?_ | refine Fr.alloc ?_ _)); obtain ⟨hc1, hf1, hc2, hend⟩ := hq; have HEND := Lib.hid hend; clear hend; obtain ⟨A2, cap2, rfl, _, _⟩ := hown1.look))
  all_goals
    clear hown1 hgrow hat
    go_wp2_with fail
    go_returns
    obtain ⟨⟨v', k1, k2⟩, k3, k4⟩ := HEND.out
    first
      | exact ⟨rfl, ⟨v', k1, k2⟩, k3, k4⟩
      | exact ⟨rfl, ⟨v', k1.drew, k2.drew⟩, k3.drew, k4.trans (Fr.kb (S := []) ((Fr.refl _ _).drew) (by simp))⟩

theorem stepL_same (s : List Int × List Int) (x : Int) : (stepL same1 s x).2 = s.2 ++ [x] := by
  unfold stepL same1
  split <;> rfl
theorem foldL_same : ∀ (l : List Int) (s : List Int × List Int), (l.foldl (stepL same1) s).2 = s.2 ++ l
  | [], s => by simp
  | x :: l, s => by rw [List.foldl_cons, foldL_same l, stepL_same]; simp
theorem trL_same (pre l : List Int) : (trL same1 pre l).2 = l := by
  unfold trL
  rw [foldL_same]
  simp
theorem foldF_same : ∀ (l : List (List Int)) (s : List Int × List (List Int)), (l.foldl (stepF same1) s).2 = s.2 ++ l
  | [], s => by simp
  | x :: l, s => by rw [List.foldl_cons, foldF_same l]; unfold stepF; rw [trL_same]; simp
theorem trF_same (pre : List Int) (l : List (List Int)) : (trF same1 pre l).2 = l := by
  unfold trF
  rw [foldF_same]
  simp
theorem foldT_same : ∀ (l : List (List (List Int))) (s : List Int × List (List (List Int))), (l.foldl (stepT same1) s).2 = s.2 ++ l
  | [], s => by simp
  | x :: l, s => by rw [List.foldl_cons, foldT_same l]; unfold stepT; rw [trF_same]; simp
theorem foldH_same : ∀ (l : List (Bool × Int)) (s : List Int × List (Bool × Int)), (l.foldl (stepH same1) s).2 = s.2 ++ l
  | [], s => by simp
  | (o, x) :: l, s => by
    rw [List.foldl_cons, foldH_same l]
    unfold stepH same1
    split
    · rename_i h
      obtain ⟨h, _⟩ := h
      simp only at h
      subst h
      simp
    · simp
theorem updA_same (a : RA) : (updA same1 a).2 = a := by
  unfold updA
  simp only
  unfold trT trH
  rw [foldT_same, foldH_same, trL_same]
  simp
/-- All roots that aren't null, in their order. -/
def rootsA (a : RA) : List Int := (updA same1 a).1
theorem rootsA_len (a : RA) : (rootsA a).length ≤ sizeA a := by
  unfold rootsA updA
  simp only
  have h1 := trT_fst same1 a.ths ([], [])
  have h2 := trH_fst same1 a.hs ((trT same1 [] a.ths).1, [])
  have h3 := trL_fst same1 a.q ((trH same1 (trT same1 [] a.ths).1 a.hs).1, [])
  have e1 : (a.ths.foldl (stepT same1) ([], [])) = trT same1 [] a.ths := rfl
  have e2 : (a.hs.foldl (stepH same1) ((trT same1 [] a.ths).1, [])) = trH same1 (trT same1 [] a.ths).1 a.hs := rfl
  rw [e1] at h1
  rw [e2] at h2
  have e3 : (a.q.foldl (stepL same1) ((trH same1 (trT same1 [] a.ths).1 a.hs).1, [])) = trL same1 (trH same1 (trT same1 [] a.ths).1 a.hs).1 a.q := rfl
  rw [e3] at h3
  unfold sizeA
  simp only [List.length_nil] at h1 h2 h3
  omega
theorem sizeA_le {b0 : Nat} {w : World} {g : Nat} {R : Rts} (h : RT b0 w g R) : sizeA R.abs ≤ 40000 + R.q.length := by
  unfold sizeA Rts.abs
  simp only
  have h1 : sumT (R.ths.map Thr.ls) ≤ R.ths.length * 4096 := by
    have hr := h.room
    have ho := h.ok.2.2.2.1
    generalize R.ths = l at hr
    induction l with
    | nil => simp [sumT]
    | cons t l ih =>
      have := ih (fun u hu => hr u (by simp [hu]))
      have := hr t (by simp)
      simp only [sumT, List.map_cons, List.sum_cons, List.length_cons] at *
      omega
  have h2 := h.ok.2.1
  have h3 := h.ok.2.2.2.2
  omega

/-- What All leaves: a new list; the roots are as they were. -/
def AllR (b0 g : Nat) (a : RA) (F : List Nat) (w : World) (e : Ending) (w' : World) : Prop :=
  ∃ v, e = .returned v ∧ Lst w' w.heap.size 3 1 v (rootsA a).length (iV (rootsA a)) ∧ RS b0 w' g a F ∧ Fr F w w'

set_option maxRecDepth 100000 in
set_option maxHeartbeats 1600000 in
theorem all_any {b0 : Nat} {w : World} {g : Nat} {a : RA} {F : List Nat} (h : RS b0 w g a F) (hb0 : b0 ≤ w.heap.size) (hl : a.q.length ≤ 5000000000000) :
    Calls Tryz.prog 12 #[.pointer (some ⟨g, 0, none⟩)] w (AllR b0 g a F w) := by
  obtain ⟨R, hR, rfl, rfl⟩ := h
  have hq : R.q.length ≤ 5000000000000 := hl
  obtain ⟨z, hz⟩ : ∃ z, z = w.alloc (.cells #[.slice none 0 0] 91) := ⟨_, rfl⟩
  have hfz : Fr [] w z := by rw [hz]; exact (Fr.refl _ _).alloc _
  have hzs : z.heap.size = w.heap.size + 1 := by rw [hz]; simp
  have hBl : Bk z w.heap.size 91 #[.slice none 0 0] := by rw [hz]; exact Bk.new _ _ _
  have hRz := hR.nil hfz
  have hfoot := hR.lt
  have HC : Hid (Calls Tryz.prog 53 #[.pointer (some ⟨g, 0, none⟩), .func (.func 54) #[.pointer (some ⟨w.heap.size, 0, none⟩)] #[]] z fun e w' => e = .returned (.tuple #[]) ∧
      ∃ v, Bk w' w.heap.size 91 #[v] ∧ Lst w' w.heap.size 3 1 v (rootsA R.abs).length (iV (rootsA R.abs)) ∧ RS b0 w' g R.abs (R.foot g) ∧ Fr (R.foot g) w w') := by
    refine (each_any (D := [w.heap.size]) (VS := VL w.heap.size) (y := same1) (N := 10000000000000) (f := 54) (fi := #[.pointer (some ⟨w.heap.size, 0, none⟩)]) hRz (by omega)
      (fun x hx => by
        simp only [List.mem_cons, List.not_mem_nil, or_false] at hx
        subst hx
        exact ⟨by omega, fun hf => by have := hfoot _ hf; omega⟩)
      (fun n₀ W h1 h2 h3 => ⟨_, hBl.fr h3 (by simp), Lst.nil _ _ _ _⟩)
      (fun n₀ h1 => list_vis w.heap.size n₀ (by omega)) (enters_of Tryz.func54 (by kernel_rfl) rfl) (by have := sizeA_le hR; omega) (by omega)).mono ?_
    rintro e w' ⟨he, Rc, hE, hab⟩
    obtain ⟨v, k1, k2⟩ := hE.vs
    refine ⟨he, v, k1, k2.mono (by omega), ⟨Rc, hE.rt, by rw [hab, updA_same], hE.ft⟩, ?_⟩
    have hfz2 : Fr (R.foot g) w z := hfz.mono (by simp)
    exact hfz2.trans (hE.kb.fr0 (by omega)) (fun x hx => by
      rcases List.mem_append.1 hx with e | e
      · exact .inl e
      · simp only [List.mem_cons, List.not_mem_nil, or_false] at e
        exact .inr (by omega))
  clear hR hRz hl hq hfoot hBl hfz
  go_enter Tryz.func12, Tryz.ntmps12
  go_wp2_with fail
  rw [← hz]
  refine (Calls.mono HC.out ?_)
  rintro e w' ⟨rfl, v, k1, k2, k3, k4⟩
  have c0 := k1.cell 0
  have K2 := Lib.hid k2
  have K3 := Lib.hid k3
  have K4 := Lib.hid k4
  clear k1 k2 k3 k4
  go_wp2_with fail
  go_ret
  exact ⟨v, rfl, K2.out, K3.out, K4.out⟩
end Go.Proofs.YtdcppdgnekhcgaaGreatDoor
