/-
  Roots: what RootsMoves leans on, in plain Lean.
-/
import Derived.Test.YtdjemkgnhohcdaaRtM2
import Derived.Test.YtdjemkgnhohcdaaRtH1
namespace Go.Proofs.Ytdjemkgnhohcdaa
set_option linter.unusedVariables false

def pos (l : List Int) : List Int := l.filter (fun x => decide (0 < x))
theorem pos_cons (x : Int) (l : List Int) : pos (x :: l) = if 0 < x then x :: pos l else pos l := by
  unfold pos
  rw [List.filter_cons]
  by_cases h : 0 < x <;> simp [h]
theorem pos_append (l m : List Int) : pos (l ++ m) = pos l ++ pos m := List.filter_append ..
def hv (p : Bool × Int) : Int := if p.1 then p.2 else 0
def flat (a : RA) : List Int := a.ths.flatten.flatten ++ a.hs.map hv ++ a.q

section
variable (y : List Int → Int → Int)
theorem foldL_acc : ∀ (l : List Int) (pre acc : List Int), l.foldl (stepL y) (pre, acc) = ((trL y pre l).1, acc ++ (trL y pre l).2)
  | [], pre, acc => by simp [trL]
  | x :: l, pre, acc => by
    unfold trL
    rw [List.foldl_cons, List.foldl_cons]
    have e : stepL y (pre, acc) x = ((stepL y (pre, []) x).1, acc ++ (stepL y (pre, []) x).2) := by unfold stepL; split <;> simp
    have e2 : stepL y (pre, []) x = ((stepL y (pre, []) x).1, (stepL y (pre, []) x).2) := rfl
    rw [e, e2, foldL_acc l, foldL_acc l]
    simp
theorem trL_app (pre l m : List Int) : trL y pre (l ++ m) = ((trL y (trL y pre l).1 m).1, (trL y pre l).2 ++ (trL y (trL y pre l).1 m).2) := by
  show (l ++ m).foldl (stepL y) (pre, []) = _
  rw [List.foldl_append]
  have e : l.foldl (stepL y) (pre, []) = ((trL y pre l).1, (trL y pre l).2) := rfl
  rw [e, foldL_acc]
theorem trL_one (pre : List Int) (x : Int) (l : List Int) : trL y pre (x :: l) = ((trL y (stepL y (pre, []) x).1 l).1, (stepL y (pre, []) x).2 ++ (trL y (stepL y (pre, []) x).1 l).2) := by
  show (x :: l).foldl (stepL y) (pre, []) = _
  rw [List.foldl_cons]
  have e2 : stepL y (pre, []) x = ((stepL y (pre, []) x).1, (stepL y (pre, []) x).2) := rfl
  rw [e2, foldL_acc]
theorem trL_pos : ∀ (l pre : List Int), (trL y pre l).1 = pre ++ pos l
  | [], pre => by simp [trL, pos]
  | x :: l, pre => by
    rw [trL_one, trL_pos l, pos_cons]
    unfold stepL
    split <;> simp
theorem foldF_flat : ∀ (fs : List (List Int)) (pre : List Int) (acc : List (List Int)), (fs.foldl (stepF y) (pre, acc)).1 = (trL y pre fs.flatten).1 ∧ (fs.foldl (stepF y) (pre, acc)).2.flatten = acc.flatten ++ (trL y pre fs.flatten).2 ∧ (fs.foldl (stepF y) (pre, acc)).2.map List.length = acc.map List.length ++ fs.map List.length
  | [], pre, acc => by simp [trL]
  | l :: fs, pre, acc => by
    rw [List.foldl_cons]
    have e : stepF y (pre, acc) l = ((trL y pre l).1, acc ++ [(trL y pre l).2]) := rfl
    obtain ⟨h1, h2, h3⟩ := foldF_flat fs (trL y pre l).1 (acc ++ [(trL y pre l).2])
    rw [e, h1, h2, h3, List.flatten_cons, trL_app]
    simp [trL_length]
theorem foldT_flat : ∀ (ts : List (List (List Int))) (pre : List Int) (acc : List (List (List Int))), (ts.foldl (stepT y) (pre, acc)).1 = (trL y pre ts.flatten.flatten).1 ∧ (ts.foldl (stepT y) (pre, acc)).2.flatten.flatten = acc.flatten.flatten ++ (trL y pre ts.flatten.flatten).2 ∧ (ts.foldl (stepT y) (pre, acc)).2.map (fun fs => fs.map List.length) = acc.map (fun fs => fs.map List.length) ++ ts.map (fun fs => fs.map List.length)
  | [], pre, acc => by simp [trL]
  | fs :: ts, pre, acc => by
    rw [List.foldl_cons]
    have e : stepT y (pre, acc) fs = ((trF y pre fs).1, acc ++ [(trF y pre fs).2]) := rfl
    obtain ⟨k1, k2, k3⟩ := foldF_flat y fs pre []
    have k1 : (trF y pre fs).1 = _ := k1
    have k2 : (trF y pre fs).2.flatten = _ := k2
    have k3 : (trF y pre fs).2.map List.length = _ := k3
    obtain ⟨h1, h2, h3⟩ := foldT_flat ts (trF y pre fs).1 (acc ++ [(trF y pre fs).2])
    rw [e, h1, h2, h3, List.flatten_cons, List.flatten_append, trL_app, k1]
    simp [k2, k3]
theorem foldH_flat : ∀ (hs : List (Bool × Int)) (pre : List Int) (acc : List (Bool × Int)), (hs.foldl (stepH y) (pre, acc)).1 = (trL y pre (hs.map hv)).1 ∧ (hs.foldl (stepH y) (pre, acc)).2.map hv = acc.map hv ++ (trL y pre (hs.map hv)).2
  | [], pre, acc => by simp [trL]
  | p :: hs, pre, acc => by
    rw [List.foldl_cons, List.map_cons, trL_one]
    obtain ⟨o, x⟩ := p
    by_cases h : o = true ∧ 0 < x
    · have e : stepH y (pre, acc) (o, x) = (pre ++ [x], acc ++ [(true, y pre x)]) := by unfold stepH; rw [if_pos h]
      have e2 : stepL y (pre, []) (hv (o, x)) = (pre ++ [x], [y pre x]) := by unfold stepL hv; simp [h.1, h.2]
      obtain ⟨h1, h2⟩ := foldH_flat hs (pre ++ [x]) (acc ++ [(true, y pre x)])
      rw [e, e2, h1, h2]
      simp [hv]
    · have e : stepH y (pre, acc) (o, x) = (pre, acc ++ [(o, x)]) := by unfold stepH; rw [if_neg h]
      have e2 : stepL y (pre, []) (hv (o, x)) = (pre, [hv (o, x)]) := by
        unfold stepL
        rw [if_neg]
        · rfl
        · unfold hv
          cases o with
          | true => simpa using h
          | false => simp
      obtain ⟨h1, h2⟩ := foldH_flat hs pre (acc ++ [(o, x)])
      rw [e, e2, h1, h2]
      simp
theorem foldH_at (hy : ∀ pre x, 0 ≤ y pre x) : ∀ (hs : List (Bool × Int)) (pre : List Int) (acc : List (Bool × Int)), ∃ l2 : List (Bool × Int), (hs.foldl (stepH y) (pre, acc)).2 = acc ++ l2 ∧ l2.length = hs.length ∧ ∀ (i : Nat) (p : Bool × Int), hs[i]? = some p → ∃ p' : Bool × Int, l2[i]? = some p' ∧ p'.1 = p.1 ∧ (p' = p ∨ (0 < p.2 ∧ 0 ≤ p'.2))
  | [], pre, acc => ⟨[], by simp, rfl, fun i p h => by simp at h⟩
  | q :: hs, pre, acc => by
    rw [List.foldl_cons]
    by_cases h : q.1 = true ∧ 0 < q.2
    · have e : stepH y (pre, acc) q = (pre ++ [q.2], acc ++ [(true, y pre q.2)]) := by unfold stepH; rw [if_pos h]
      obtain ⟨l2, h1, h2, h3⟩ := foldH_at hy hs (pre ++ [q.2]) (acc ++ [(true, y pre q.2)])
      refine ⟨(true, y pre q.2) :: l2, by rw [e, h1]; simp, by simp [h2], fun i p hi => ?_⟩
      cases i with
      | zero =>
        have hp : q = p := by simpa using hi
        subst hp
        exact ⟨_, rfl, h.1.symm, .inr ⟨h.2, hy _ _⟩⟩
      | succ i => exact h3 i p (by simpa using hi)
    · have e : stepH y (pre, acc) q = (pre, acc ++ [q]) := by unfold stepH; rw [if_neg h]
      obtain ⟨l2, h1, h2, h3⟩ := foldH_at hy hs pre (acc ++ [q])
      refine ⟨q :: l2, by rw [e, h1]; simp, by simp [h2], fun i p hi => ?_⟩
      cases i with
      | zero =>
        have hp : q = p := by simpa using hi
        subst hp
        exact ⟨_, rfl, rfl, .inl rfl⟩
      | succ i => exact h3 i p (by simpa using hi)
theorem updA_flat (a : RA) : (updA y a).1 = (trL y [] (flat a)).1 ∧ flat (updA y a).2 = (trL y [] (flat a)).2 := by
  obtain ⟨t1, t2, t3⟩ := foldT_flat y a.ths [] []
  have t1 : (trT y [] a.ths).1 = _ := t1
  have t2 : (trT y [] a.ths).2.flatten.flatten = _ := t2
  obtain ⟨h1, h2⟩ := foldH_flat y a.hs (trT y [] a.ths).1 []
  have h1 : (trH y (trT y [] a.ths).1 a.hs).1 = _ := h1
  have h2 : (trH y (trT y [] a.ths).1 a.hs).2.map hv = _ := h2
  unfold updA flat
  simp only
  rw [h2, t2, h1, t1]
  simp only [List.flatten_nil, List.map_nil, List.nil_append]
  rw [trL_app, trL_app]
  exact ⟨rfl, rfl⟩
end
theorem rootsA_pos (a : RA) : rootsA a = pos (flat a) := by
  unfold rootsA
  rw [(updA_flat same1 a).1, trL_pos]
  rfl
theorem upd_met (y : List Int → Int → Int) (a : RA) : (updA y a).1 = rootsA a := by
  rw [(updA_flat y a).1, trL_pos, rootsA_pos]
  rfl
theorem lay_pos (ans : List Int) : ∀ (l pre : List Int), pos (trL (ansA ans) pre l).2 = pos ((ans.drop pre.length).take (pos l).length)
  | [], pre => by simp [trL, pos]
  | x :: l, pre => by
    rw [trL_one, pos_append, lay_pos ans l, pos_cons]
    by_cases h : 0 < x
    · have e : stepL (ansA ans) (pre, []) x = (pre ++ [x], [ansA ans pre x]) := by unfold stepL; rw [if_pos h]; rfl
      rw [e, if_pos h, List.length_cons, List.length_append]
      simp only [List.length_cons, List.length_nil]
      by_cases hl : pre.length < ans.length
      · rw [List.drop_eq_getElem_cons hl, List.take_succ_cons, pos_cons]
        have e3 : ansA ans pre x = max ans[pre.length] 0 := by unfold ansA; simp [List.getD, hl]
        rw [e3, pos_cons]
        by_cases h4 : 0 < ans[pre.length]
        · rw [if_pos (by omega), if_pos h4]
          have e5 : max ans[pre.length] 0 = ans[pre.length] := by omega
          simp [pos, e5]
        · rw [if_neg (by omega), if_neg h4]
          simp [pos]
      · have e3 : ansA ans pre x = 0 := by
          unfold ansA
          rw [List.getD_eq_getElem?_getD, List.getElem?_eq_none (by omega)]
          rfl
        rw [e3, List.drop_eq_nil_of_le (by omega), List.drop_eq_nil_of_le (by omega)]
        simp [pos]
    · have e : stepL (ansA ans) (pre, []) x = (pre, [x]) := by unfold stepL; rw [if_neg h]; rfl
      rw [e, if_neg h]
      simp only [pos_cons, if_neg h]
      simp [pos]
theorem upd_roots (ans : List Int) (a : RA) : rootsA (updA (ansA ans) a).2 = pos (ans.take (rootsA a).length) := by
  rw [rootsA_pos, (updA_flat _ a).2, lay_pos, rootsA_pos]
  rfl
theorem upd_frames (y : List Int → Int → Int) (a : RA) (i : Int) : framesA (updA y a).2 i = framesA a i := by
  obtain ⟨_, _, t3⟩ := foldT_flat y a.ths [] []
  have t3 : (updA y a).2.ths.map (fun fs => fs.map List.length) = a.ths.map (fun fs => fs.map List.length) := by
    rw [List.map_nil, List.nil_append] at t3
    exact t3
  generalize (updA y a).2 = b at t3
  have hl : b.ths.length = a.ths.length := by have := congrArg List.length t3; simpa using this
  have hin : inT b i = inT a i := by unfold inT; rw [hl]
  unfold framesA
  rw [hin]
  split
  · rfl
  · have h : ∀ c : RA, (thA c i).map List.length = (c.ths.map (fun fs => fs.map List.length)).getD i.toNat [] := fun c => by
      unfold thA
      rw [List.getD_eq_getElem?_getD, List.getD_eq_getElem?_getD, List.getElem?_map]
      cases c.ths[i.toNat]? <;> rfl
    have h1 : (thA b i).map List.length = (thA a i).map List.length := by rw [h, h, t3]
    have h2 := congrArg (List.map (fun n : Nat => (n : Int))) h1
    rw [List.map_map, List.map_map] at h2
    exact h2
theorem upd_q (y : List Int → Int → Int) (a : RA) : (updA y a).2.q.length = a.q.length := trL_length y _ _
theorem upd_handles (ans : List Int) (a : RA) (hn : nnH a.hs) : (handlesA (updA (ansA ans) a).2).length = (handlesA a).length ∧
    ∀ (i : Nat) (x : Int), (handlesA a)[i]? = some x → ∃ x' : Int, (handlesA (updA (ansA ans) a).2)[i]? = some x' ∧ decide (x' < 0) = decide (x < 0) ∧ (x = 0 → x' = 0) := by
  obtain ⟨l2, h1, h2, h3⟩ := foldH_at (ansA ans) (fun pre x => by unfold ansA; omega) a.hs (trT (ansA ans) [] a.ths).1 []
  have h1 : (updA (ansA ans) a).2.hs = l2 := by
    rw [List.nil_append] at h1
    exact h1
  unfold handlesA
  rw [h1]
  refine ⟨by simp [h2], fun i x hx => ?_⟩
  rw [List.getElem?_map] at hx
  cases hp : a.hs[i]? with
  | none => rw [hp] at hx; cases hx
  | some p =>
    rw [hp] at hx
    have hx : (if p.1 then p.2 else -1) = x := by simpa using hx
    obtain ⟨p', k1, k2, k3⟩ := h3 i p hp
    have hp0 := hn p (List.mem_of_getElem? hp)
    refine ⟨if p'.1 then p'.2 else -1, by rw [List.getElem?_map, k1]; rfl, ?_, ?_⟩
    · rw [k2]
      rcases k3 with rfl | ⟨a1, a2⟩
      · rw [hx]
      · rw [← hx]
        split
        · rw [decide_eq_false (by omega), decide_eq_false (by omega)]
        · rfl
    · intro h0
      rw [k2]
      rcases k3 with rfl | ⟨a1, a2⟩
      · rw [hx]; exact h0
      · split
        · rename_i hb
          rw [if_pos hb] at hx
          omega
        · rename_i hb
          rw [if_neg hb] at hx
          omega
end Go.Proofs.Ytdjemkgnhohcdaa
