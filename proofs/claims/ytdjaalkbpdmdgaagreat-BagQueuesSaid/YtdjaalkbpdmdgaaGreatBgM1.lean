/-
  Bag: the function that a queue's Map is handed.
-/
import Derived.Test.YtdjaalkbpdmdgaaGreatBgT7
namespace Go.Proofs.YtdjaalkbpdmdgaaGreat
open Go.RowKit
set_option linter.unusedVariables false

def f3 (n x : Int) : Int := wrap64 (wrap64 (3 * x) + n)
/-- A turner: its number, what it has seen. -/
structure Tn (b0 : Nat) (w : World) (g : Nat) (n : Int) (v : Value) (l : List Int) : Prop where
  B : Bk w g 94 #[.int .i64 n, v, .slice none 0 0]
  L : Lst w b0 3 1 v l.length (iV l)
  b : b0 ≤ g
theorem Tn.fr {b0 : Nat} {w w' : World} {g : Nat} {n : Int} {v : Value} {l : List Int} {S : List Nat} (h : Tn b0 w g n v l) (hf : Fr S w w') (hS : ∀ x ∈ skT g v, x ∉ S) : Tn b0 w' g n v l :=
  ⟨h.B.fr hf (hS g (by simp [skT])), h.L.fr hf (fun k hk => hS k (by simp [skT, hk])), h.b⟩
theorem Tn.lt {b0 : Nat} {w : World} {g : Nat} {n : Int} {v : Value} {l : List Int} (h : Tn b0 w g n v l) : ∀ x ∈ skT g v, b0 ≤ x ∧ x < w.heap.size := by
  intro x hx
  simp only [skT, List.mem_cons, Option.mem_toList] at hx
  rcases hx with rfl | hx
  · exact ⟨h.b, h.B.lt⟩
  · exact h.L.lt x hx
def thTn (b0 g : Nat) (n : Int) (v : Value) (l : List Int) : Th b0 := ⟨skT g v, fun w => Tn b0 w g n v l, fun h hf hS => h.fr hf hS, fun h => h.lt⟩
def TnTo (b0 g : Nat) (n : Int) (v : Value) (l : List Int) (r : Value) (w : World) (e : Ending) (w' : World) : Prop :=
  e = .returned r ∧ ∃ v', Tn b0 w' g n v' l ∧ Fr (skT g v) w w' ∧ ∀ x ∈ skT g v', x ∈ skT g v ∨ w.heap.size ≤ x
theorem Sg.tn {w0 w w' : World} {Ts : List (Th w0.heap.size)} {e : Ending} {r v : Value} {g i : Nat} {n : Int} {l l' : List Int} (h : Sg w0 Ts w) (hi : Ts[i]? = some (thTn w0.heap.size g n v l)) (ho : TnTo w0.heap.size g n v l' r w e w') : e = .returned r ∧ ∃ v', Sg w0 (Ts.set i (thTn w0.heap.size g n v' l')) w' := by
  obtain ⟨h1, v', h2, h3, h4⟩ := ho
  exact ⟨h1, v', h.set hi h3 h2 h4⟩

set_option maxRecDepth 100000 in
set_option maxHeartbeats 800000 in
theorem of_any (b0 g : Nat) (n : Int) (v : Value) (l : List Int) (x : Int) (w : World) (h : Tn b0 w g n v l) (hl : l.length ≤ 1000000) (hb : b0 ≤ w.heap.size) :
    Calls Tryz.prog 43 #[.pointer (some ⟨g, 0, none⟩), .int .i64 x] w (TnTo b0 g n v (l ++ [x]) (.int .i64 (f3 n x)) w) := by
  obtain ⟨i2, hi2, hz2, hs2, hb2⟩ := info_parts' int_info
  obtain ⟨m, hm⟩ : ∃ m, l.length = m := ⟨_, rfl⟩
  have hL := h.L
  rw [hm] at hL hl
  obtain ⟨A, cp, rfl, _, _⟩ := hL.look
  have c1 : w.cell? ⟨g, 1, none⟩ = some (.slice A m cp) := h.B.cell 1
  have HEND : Hid (∀ (w1 : World) (v' : Value), Fr (Value.slice A m cp).ownBlock.toList w w1 → Lst w1 b0 3 1 v' (m + 1) (iV l ++ [.int .i64 x]) → (∀ k, v'.ownBlock = some k → (Value.slice A m cp).ownBlock = some k ∨ w.heap.size ≤ k) →
      Bk w1 g 94 #[.int .i64 n, .slice A m cp, .slice none 0 0] ∧ Bk (w1.setCell ⟨g, 1, none⟩ v') g 94 #[.int .i64 n, v', .slice none 0 0] ∧ TnTo b0 g n (.slice A m cp) (l ++ [x]) (.int .i64 (f3 n x)) w (.returned (.int .i64 (f3 n x))) (w1.setCell ⟨g, 1, none⟩ v')) := fun w1 v' hf hL' hv' => by
    have hB1 := h.B.fr hf (fun hx => h.L.ne_bk h.B (by decide) g (by simpa using hx) rfl)
    have hB2 := hB1.put 1 v'
    refine ⟨hB1, hB2, rfl, v', ⟨hB2, ?_, h.b⟩, (hf.mono (fun y hy => .inl (by simp only [skT, List.mem_cons]; exact .inr hy))).setCell (.inl (by simp [skT])) _, fun y hy => ?_⟩
    · have := hL'.far (p := ⟨g, 1, none⟩) (hL'.ne_bk hB1 (by decide)) v'
      unfold iV at this ⊢
      rw [List.length_append, List.map_append, hm]
      exact this
    · simp only [skT, List.mem_cons, Option.mem_toList] at hy ⊢
      rcases hy with e | e
      · exact .inl (.inl e)
      · exact (hv' y e).imp (fun hh => .inr hh) id
  have HL := Lib.hid hL
  unfold f3 at HEND ⊢
  clear h hL
  go_enter Tryz.func43, Tryz.ntmps43
  go_wp2_with (at_builtin; refine wpList_append_lst _ rfl (.tmp 9) (.tmp 11) _ rfl b0 3 i2 _ 1 8 Tryz.underlying68 hi2 hz2 hs2 hb2 rfl (.slice A m cp) m (iV l) rfl (HL.out.alloc _) ⟨w.heap.size, 0, none⟩ 1 1 [.int .i64 x] rfl rfl (World.news_of_block (heap_alloc_new _ _)) ?cA ?cB ?cC ?cD ?cE)
  case cA => simp [Value.oneCell']
  case cB => unfold maxLen; omega
  case cC => omega
  case cD => first | omega | (simp; omega)
  case cE =>
    intro v2 w7 hown hgrow hat
    obtain ⟨q1, q2, q3⟩ := HEND.out w7 v2 (((Fr.refl _ _).alloc _).grown hgrow (fun j hj => .inl (by simp [hj]))) hown (own_or (by simp) hat)
    have HQ := Lib.hid q3
    have c7 := q1.cell 1
    have f7 := q1.free 1
    have e7 := q2.cell 0
    obtain ⟨A2, cap2, rfl, _, _⟩ := hown.look
    clear hown hgrow hat q1 q2 q3
    go_wp2_with fail
    go_ret
    exact HQ.out
end Go.Proofs.YtdjaalkbpdmdgaaGreat
