/-
  Roots: an asker answers what it is to, and lists what it met.
-/
import Derived.Test.YtdjemkgnhohcdaaRtS11
import Derived.Test.YtdjemkgnhohcdaaLstBig
import Derived.Deep.RegionWith
namespace Go.Proofs.Ytdjemkgnhohcdaa
open Go.RowKit
set_option linter.unusedVariables false

/-- Where the answers lie, if there are any. -/
def dA (A : Option Addr) (ans : List Int) : Option Addr := if ans = [] then none else A
theorem RdI.frd {w w' : World} {A : Option Addr} {l : List Int} {S : List Nat} (h : RdI w A l) (hf : Fr S w w') (hS : ∀ a, dA A l = some a → a.block ∉ S) : RdI w' A l := by
  by_cases hl : l = []
  · subst hl
    exact RdI.nil _ _
  · exact h.fr hf (fun a ha => hS a (by unfold dA; rw [if_neg hl]; exact ha))
theorem RdI.dlt {w : World} {A : Option Addr} {l : List Int} (h : RdI w A l) : ∀ a, dA A l = some a → a.block < w.heap.size := by
  intro a ha
  unfold dA at ha
  split at ha
  · cases ha
  · rename_i hl
    obtain ⟨b, o, e, h1, _⟩ := h.2 (List.length_pos_iff.2 hl)
    rw [e] at ha
    injection ha with ha
    subst ha
    exact h1

/-- An asker: its answers lie at A; it has listed what it met. -/
def VA (w0 : World) (bl n₀ : Nat) (A : Option Addr) (n c : Nat) (ans : List Int) (pre : List Int) (W : World) : Prop :=
  ∃ v, Bk W bl 56 #[.slice A n c, v] ∧ Lst W n₀ 3 1 v pre.length (iV pre) ∧ RdI W A ans ∧ ∀ a, dA A ans = some a → W.heap[a.block]? = w0.heap[a.block]?
def ansA (ans pre : List Int) (_ : Int) : Int := max (ans.getD pre.length 0) 0

set_option maxRecDepth 100000 in
set_option maxHeartbeats 1600000 in
theorem ask_any (w0 : World) (bl n₀ : Nat) (hbl : bl < n₀) (A : Option Addr) (n c : Nat) (ans : List Int) (hna : n = ans.length) (hA : ∀ a, dA A ans = some a → a.block < n₀ ∧ a.block ≠ bl) {pre : List Int} {x : Int} {W : World} (hlen : pre.length < 10000000000000) (hs : VA w0 bl n₀ A n c ans pre W) (hn : n₀ ≤ W.heap.size) :
    Calls Try.prog 30 #[.pointer (some ⟨bl, 0, none⟩), .int .i64 x] W fun e w' => e = .returned (.int .i64 (ans.getD pre.length 0)) ∧ VA w0 bl n₀ A n c ans (pre ++ [x]) w' ∧ Kb n₀ [bl] W w' := by
  obtain ⟨v, hB, hL, hR, hE⟩ := hs
  obtain ⟨Av, cp, rfl, _, _⟩ := hL.look
  have c0 : W.cell? ⟨bl, 0, none⟩ = some (.slice A n c) := hB.cell 0
  have c1 : W.cell? ⟨bl, 1, none⟩ = some (.slice Av pre.length cp) := hB.cell 1
  obtain ⟨m, hm1⟩ : ∃ m, pre.length = m := ⟨_, rfl⟩
  have HR1 := Lib.hid hR
  have HP : Hid (∀ (v' : Value) (w1 : World), Lst w1 n₀ 3 1 v' (m + 1) (iV pre ++ [.int .i64 x]) → Fr ((Value.slice Av m cp).ownBlock.toList) W w1 → w1.cell? ⟨bl, 1, none⟩ = some (.slice Av m cp) ∧ w1.frozen? ⟨bl, 0, none⟩ = false ∧ w1.frozen? ⟨bl, 1, none⟩ = false ∧
      (Bk (w1.setCell ⟨bl, 1, none⟩ v') bl 56 #[.slice A n c, v'] ∧ VA w0 bl n₀ A n c ans (pre ++ [x]) (w1.setCell ⟨bl, 1, none⟩ v') ∧ Kb n₀ [bl] W (w1.setCell ⟨bl, 1, none⟩ v'))) := fun v' w1 hl' hf => by
    rw [hm1] at hL hB
    have hlo := hL.lt
    have off : ∀ z, z < n₀ → z ∉ (Value.slice Av m cp).ownBlock.toList := fun z hz hx => by have := (hlo z (by simpa using hx)).1; omega
    have hB1 := hB.fr hf (off bl hbl)
    have hvn : ∀ k, v'.ownBlock = some k → k ≠ bl := hl'.ne_bk hB1 (by decide)
    have hB2 : Bk (w1.setCell ⟨bl, 1, none⟩ v') bl 56 #[.slice A n c, v'] := hB1.put 1 v'
    have hf2 : Fr [bl] w1 (w1.setCell ⟨bl, 1, none⟩ v') := (Fr.refl _ _).setCell (by simp) _
    refine ⟨hB1.cell 1, hB1.free 0, hB1.free 1, hB2, ⟨v', hB2, ?_, ?_, ?_⟩, ?_⟩
    · have := hl'.far (p := ⟨bl, 1, none⟩) hvn v'
      unfold iV at this ⊢
      rw [List.length_append, List.map_append, hm1]
      exact this
    · exact (hR.frd hf (fun a ha => off _ (hA a ha).1)).frd hf2 (fun a ha => by simpa using (hA a ha).2)
    · intro a ha
      have h1 := Nat.lt_of_lt_of_le (hA a ha).1 hn
      exact (hf2.block a.block (Nat.lt_of_lt_of_le h1 hf.size) (by simpa using (hA a ha).2)).trans ((hf.block a.block h1 (off _ (hA a ha).1)).trans (hE a ha))
    · exact (hf.kb (fun z hz => .inr (hlo z (by simpa using hz)).1)).trans (Fr.kb hf2 (by simp))
  have HL := Lib.hid hL
  rw [hm1] at HL
  rw [hm1] at c1 hlen ⊢
  obtain ⟨i2, hi2, hz2, hs2, hb2⟩ := info_parts int_info
  have HNA := Lib.hid hna
  clear hB hL hR hE hm1 hna hA
  go_enter Try.func30, Try.ntmps30
  go_wp2_with (at_builtin; go_loud (refine wpList_append_lst _ rfl (.tmp 15) (.tmp 17) _ rfl n₀ 3 i2 _ 1 8 Try.underlying31 hi2 hz2 hs2 hb2 rfl _ m (iV pre) rfl (HL.out.alloc _) ⟨W.heap.size, 0, none⟩ 1 1 [.int .i64 x] rfl rfl (World.news_of_block (heap_alloc_new _ _)) ?c2 ?c3 ?c4 ?c5 ?c6))
  case c2 => simp [Value.oneCell']
  case c3 => unfold maxLen; omega
  case c4 => omega
  case c5 => first | omega | (simp; omega)
  case c6 =>
    intro v2 w1 hown hgrow hat
    obtain ⟨k1, k2, k3, k4⟩ := HP.out v2 w1 hown (((Fr.refl _ _).alloc _).grown hgrow (fun k hk => .inl (by simp [hk])))
    have K4 := Lib.hid k4
    obtain ⟨Av2, cp2, rfl, _, _⟩ := hown.look
    clear hown hgrow hat k4
    go_upto_region 3 with fail
    obtain ⟨w2, hw2⟩ : ∃ w2, w1.setCell ⟨bl, 1, none⟩ (.slice Av2 (m + 1) cp2) = w2 := ⟨_, rfl⟩
    rw [hw2] at K4 ⊢
    obtain ⟨b1, b2, b3⟩ := K4.out
    have d0 : w2.cell? ⟨bl, 0, none⟩ = some (.slice A n c) := b1.cell 0
    have hr2 : RdI w2 A ans := by obtain ⟨_, _, _, h, _⟩ := b2; exact h
    have HR2 := Lib.hid hr2
    have B2 := Lib.hid b2
    have B3 := Lib.hid b3
    clear b1 b2 b3 hr2 k1 k2 k3 c0 c1 hw2 K4
    by_cases hlt : m < n
    · obtain ⟨y, hy⟩ : ∃ y, ans[m]? = some y := ⟨_, List.getElem?_eq_getElem (by have := HNA.out; omega)⟩
      obtain ⟨b, o, rfl, _, hcell⟩ := HR2.out.2 (by have := HNA.out; omega)
      have cy := hcell m y hy
      have hg : ans.getD m 0 = y := by rw [List.getD_eq_getElem?_getD, hy]; rfl
      have HG := Lib.hid hg
      have i0 : (0 : Int) ≤ (m : Int) := by omega
      have i1 : (m : Int) < (n : Int) := by omega
      clear hy hcell hg
      go_wp2_with fail
      go_ret
      exact ⟨by rw [HG.out]; rfl, B2.out, B3.out⟩
    · have hg : ans.getD m 0 = 0 := by
        rw [List.getD_eq_getElem?_getD, List.getElem?_eq_none (by have := HNA.out; omega)]
        rfl
      have HG := Lib.hid hg
      have g1 : decide ((m : Int) < (n : Int)) = false := decide_eq_false (by omega)
      clear hg
      go_wp2_with fail
      go_ret
      exact ⟨by rw [HG.out]; rfl, B2.out, B3.out⟩
end Go.Proofs.Ytdjemkgnhohcdaa
