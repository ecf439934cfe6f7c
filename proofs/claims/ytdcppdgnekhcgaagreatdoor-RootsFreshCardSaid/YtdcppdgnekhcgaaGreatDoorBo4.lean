/-
  The Book of middenkept: a header appended to and laid back; a list copied; what links what it holds.
-/
import Derived.Test.YtdcppdgnekhcgaaGreatDoorBo3
import Derived.Deep.RegionLaw
namespace Go.Proofs.YtdcppdgnekhcgaaGreatDoor
open Go.RowKit
set_option linter.unusedVariables false

theorem binfo {P : Program} {t : TypeId} {z : Value} {s b : Nat} (h : (P.info? t).map (fun i => (i.zero, i.size, i.bytes)) = some (some z, s, b)) : ∃ i, P.info? t = some i ∧ i.zero = some z ∧ i.size = s ∧ i.bytes = b := by
  cases hh : P.info? t with
  | none => rw [hh] at h; simp at h
  | some i =>
    rw [hh] at h
    simp only [Option.map_some, Option.some.injEq, Prod.mk.injEq] at h
    exact ⟨i, rfl, h.1, h.2.1, h.2.2⟩
theorem bint_info : (Tryz.prog.info? 3).map (fun i => (i.zero, i.size, i.bytes)) = some (some (.int .i64 0), 1, 8) := by kernel_rfl
theorem bints_info : (Tryz.prog.info? 29).map (fun i => (i.zero, i.size, i.bytes)) = some (some (.slice none 0 0), 1, 24) := by kernel_rfl
theorem bown {u v : Value} {z n : Nat} (hz : n ≤ z) (h : v.ownBlock = u.ownBlock ∨ v.ownBlock = some z) : ∀ k, v.ownBlock = some k → u.ownBlock = some k ∨ n ≤ k := fun k hk => by
  rcases h with e | e
  · exact .inl (by rw [← e]; exact hk)
  · rw [e] at hk
    injection hk with hk
    exact .inr (by omega)
section
variable {w0 w w1 w' : World} {Us : List (Th w0.heap.size)}
/-- A header appended to and laid back. -/
theorem Sg.hdr {S S' : BS} {i j : Nat} {e : TypeId} {v v' : Value} {xs ys : List Value} {n g : Nat} (h : Sg w0 (bkT w0.heap.size S ++ Us) w) (hg : S.g = g) (hi : (bkT w0.heap.size S ++ Us)[i]? = some (thLst w0.heap.size e v xs)) (hi0 : i ≠ 0) (hn : n = (xs ++ ys).length) (hL : Lst w1 w0.heap.size e 1 v' n (xs ++ ys)) (hf : Fr v.ownBlock.toList w w1)
    (ho : ∀ k, v'.ownBlock = some k → v.ownBlock = some k ∨ w.heap.size ≤ k) (hc : (bookA S).setIfInBounds j v' = bookA S') (hT : ((bkT w0.heap.size S ++ Us).set i (thLst w0.heap.size e v' (xs ++ ys))).set 0 (thBox w0.heap.size S.g 43 (bookA S')) = bkT w0.heap.size S' ++ Us) :
    Bk w1 g 43 (bookA S) ∧ Sg w0 (bkT w0.heap.size S' ++ Us) (w1.setCell ⟨g, j, Option.none⟩ v') := by
  subst hg
  have h1 := h.app hi hn hL hf ho
  have h0 : ((bkT w0.heap.size S ++ Us).set i (thLst w0.heap.size e v' (xs ++ ys)))[0]? = some (thBox w0.heap.size S.g 43 (bookA S)) := by rw [List.getElem?_set_ne hi0]; rfl
  have h2 := h1.put h0 hc
  rw [hT] at h2
  exact ⟨h1.bk h0, h2⟩
/-- A cell of the book alone. -/
theorem Sg.cel {S S' : BS} {j : Nat} {u : Value} (h : Sg w0 (bkT w0.heap.size S ++ Us) w) (hc : (bookA S).setIfInBounds j u = bookA S') (hT : (bkT w0.heap.size S ++ Us).set 0 (thBox w0.heap.size S.g 43 (bookA S')) = bkT w0.heap.size S' ++ Us) : Sg w0 (bkT w0.heap.size S' ++ Us) (w.setCell ⟨S.g, j, Option.none⟩ u) := by
  have h2 := h.put (i := 0) (g := S.g) (cs := bookA S) (j := j) (u := u) rfl hc
  rw [hT] at h2
  exact h2
theorem Sg.book {S : BS} (h : Sg w0 (bkT w0.heap.size S ++ Us) w) : Bk w S.g 43 (bookA S) := h.bk (i := 0) rfl
end
/-- A list copied: append([]int{}, l...). -/
theorem run_copyI (W : World) (base nb : Nat) (ty : TypeId) (hnb : Bk W nb 3 #[]) (hb : base ≤ nb) (A : Option Addr) (n c : Nat) (l : List Int) (hn : n = l.length) (hR : RdV W (.slice A n c) l) (hlen : n ≤ 8000000000000) (hbase : base ≤ W.heap.size) :
    ∃ v' w', (Builtin.append_ #[29, 29] ty #[.slice (some ⟨nb, 0, none⟩) 0 0, .slice A n c]).run Tryz.prog W = .ok v' w' ∧ Lst w' base 3 1 v' l.length (bV l) ∧ W.grownBy w' (some nb) ∧ (v'.ownBlock = some nb ∨ v'.ownBlock = some W.heap.size) := by
  obtain ⟨i2, hi2, hz2, hs2, hb2⟩ := binfo bint_info
  have hL0 : Lst W base 3 1 (.slice (some ⟨nb, 0, none⟩) 0 0) 0 [] := ⟨rfl, .inr ⟨nb, 0, 0, #[], rfl, hb, hnb, Nat.le_refl _, by unfold maxLen; omega, by simp, by simp⟩⟩
  obtain ⟨A', c', hv, hRI⟩ := hR
  injection hv with e1 e2 e3
  subst e1 e3
  have key : ∀ (ad : Addr), A = some ad → (∀ j u, (bV l)[j]? = some u → W.cell? (ad.add j) = some u) → ∃ v' w', (Builtin.append_ #[29, 29] ty #[.slice (some ⟨nb, 0, none⟩) 0 0, .slice A n c]).run Tryz.prog W = .ok v' w' ∧ Lst w' base 3 1 v' (0 + n) ([] ++ bV l) ∧ W.grownBy w' (some nb) ∧ (v'.ownBlock = some nb ∨ v'.ownBlock = some W.heap.size) := fun ad had hnews => by
    subst had
    have := run_append_lst (P := Tryz.prog) W base 29 ty 3 i2 _ 1 8 Tryz.underlying29 hi2 hz2 hs2 hb2 rfl _ 0 [] hL0 ad n c (bV l) (by rw [bV_len, hn, Nat.mul_one]) hnews (fun u hu => by
      obtain ⟨x, _, rfl⟩ := List.mem_map.1 hu
      rfl) (by unfold maxLen; omega) (by omega) hbase
    exact this
  by_cases h0 : l.length = 0
  · cases A with
    | some ad =>
      obtain ⟨v', w', h1, h2, h3, h4⟩ := key ad rfl (fun j u hj => by
        have := (List.getElem?_eq_some_iff.1 hj).1
        rw [bV_len] at this
        omega)
      refine ⟨v', w', h1, ?_, h3, h4⟩
      rw [Nat.zero_add, List.nil_append, hn] at h2
      exact h2
    | none =>
      have hl : l = [] := List.eq_nil_of_length_eq_zero h0
      subst hl
      have hn0 : n = 0 := hn
      subst hn0
      refine ⟨.slice (some ⟨nb, 0, none⟩) 0 0, W, ?_, hL0, ⟨rfl, rfl, rfl, Nat.le_refl _, fun _ _ _ => rfl⟩, Or.inl rfl⟩
      simp [Builtin.append_, run_underlying Tryz.underlying29, sizeOf, typeInfo, hi2, Builtin.lenOf, Builtin.firstCells, loadCells, loadCellsFrom, storeCells]
  · obtain ⟨b, o, rfl, hbl, hc⟩ := hRI.2 (by omega)
    obtain ⟨v', w', h1, h2, h3, h4⟩ := key ⟨b, o, none⟩ rfl (fun j u hj => by
      have hjl := (List.getElem?_eq_some_iff.1 hj).1
      rw [bV_len] at hjl
      have hu : u = .int .i64 l[j] := by
        unfold bV at hj
        rw [List.getElem?_map, List.getElem?_eq_getElem hjl] at hj
        exact (Option.some.inj hj).symm
      have hadd : (⟨b, o, none⟩ : Addr).add j = ⟨b, o + j, none⟩ := by unfold Addr.add; split <;> simp_all
      rw [hadd, hu]
      exact hc j _ (List.getElem?_eq_getElem hjl))
    refine ⟨v', w', h1, ?_, h3, h4⟩
    rw [Nat.zero_add, List.nil_append, hn] at h2
    exact h2
theorem step_copyI {W : World} {ops : Array Oper} {o : Oper} {a : Act} {K : Act → World → Prop} {Q : Exit → Act → World → Prop} {E : Prop} (hgd : o.guard = none) (s x : Operand)
    (ho : o.op = .call { callee := .builtin .append, args := #[s, x], argTypes := #[29, 29] }) (base nb : Nat) (hs : a.eval s = .slice (some ⟨nb, 0, none⟩) 0 0) (hnb : Bk W nb 3 #[]) (hb : base ≤ nb) (A : Option Addr) (n c : Nat) (l : List Int) (hx : a.eval x = .slice A n c) (hn : n = l.length) (hR : RdV W (.slice A n c) l) (hlen : n ≤ 8000000000000) (hbase : base ≤ W.heap.size)
    (h : ∀ v' w', Lst w' base 3 1 v' l.length (bV l) → W.grownBy w' (some nb) → (v'.ownBlock = some nb ∨ v'.ownBlock = some W.heap.size) → K (a.put o.dst v') w') :
    if Region.wanted o (yielded ops a.tmps) = true then Oper.wp Tryz.prog o a W K Q else E := by
  have hw : Region.wanted o (yielded ops a.tmps) = true := by simp [Region.wanted, hgd]
  rw [if_pos hw]
  obtain ⟨v', w', hrun, h2, h3, h4⟩ := run_copyI W base nb o.type hnb hb A n c l hn hR hlen hbase
  unfold Oper.wp execOp
  simp only [ho, resolve, invoke, builtin, Sem.run_bind, Sem.run_pure, Result.andThen_ok, List.map_toArray, List.map_cons, List.map_nil, hs, hx, hrun]
  exact h v' w' h2 h3 h4
/-- How what a book holds hangs together: XF the lists that are not laid on yet, XW those that wait, XR those that are looked at. -/
structure BLk (S : BS) (XF XW XR : List (Value × List Int)) (K L : Nat) : Prop where
  x : S.X = XF ++ XW ++ XR
  W : S.W = XW.map (·.1)
  F : S.F = XF.map (·.1)
  n : S.N.length = XW.length
  m : S.M.length = XW.length
  d : S.D.length = XW.length
  r : S.R.length = XF.length
  t : S.T.length = S.O.length
  o : ∀ (i : Nat) p q, S.O[i]? = some p → S.T[i]? = some q → ∃ c, (q, c) ∈ S.Q ∧ ((p, c) ∈ S.Q ∨ (p, c) ∈ XF)
  w : ∀ (i : Nat) x q, XW[i]? = some x → S.N[i]? = some q → (q, x.2) ∈ S.Q
  k : S.O.length + 2 * (XW.length + XR.length) + XF.length ≤ K
  l : ∀ x ∈ S.X, x.2.length ≤ L
section
variable {w0 w w1 w' : World} {Us : List (Th w0.heap.size)}
/-- A header taken out: its list stays, at the end. -/
theorem Sg.out1 {S S' : BS} {i j : Nat} {e : TypeId} {v : Value} {xs : List Value} (h : Sg w0 (bkT w0.heap.size S ++ Us) w) (hi : (bkT w0.heap.size S ++ Us)[i]? = some (thLst w0.heap.size e v xs)) (hi0 : i ≠ 0) (hc : (bookA S).setIfInBounds j (.slice Option.none 0 0) = bookA S')
    (hT : (((bkT w0.heap.size S ++ Us).set i (thLst w0.heap.size e (.slice Option.none 0 0) [])) ++ [thLst w0.heap.size e v xs]).set 0 (thBox w0.heap.size S.g 43 (bookA S')) = bkT w0.heap.size S' ++ (Us ++ [thLst w0.heap.size e v xs])) :
    Sg w0 (bkT w0.heap.size S' ++ (Us ++ [thLst w0.heap.size e v xs])) (w.setCell ⟨S.g, j, Option.none⟩ (.slice Option.none 0 0)) := by
  have h1 := h.move (s := thLst w0.heap.size e (.slice Option.none 0 0) []) hi (Lst.nil _ _ _ _) rfl
  have h0 : (((bkT w0.heap.size S ++ Us).set i (thLst w0.heap.size e (.slice Option.none 0 0) [])) ++ [thLst w0.heap.size e v xs])[0]? = some (thBox w0.heap.size S.g 43 (bookA S)) := by
    rw [List.getElem?_append_left (by rw [List.length_set, List.length_append, bkT_len]; omega), List.getElem?_set_ne hi0]; rfl
  have h2 := h1.put h0 hc
  rw [hT] at h2
  exact h2
/-- A number laid into a list that is written into. -/
theorem Sg.wput {S : BS} {X1 X2 : List (Value × List Int)} {b o n cap i : Nat} {c : List Int} {z : Int} (h : Sg w0 (bkT w0.heap.size S ++ Us) w) (hn : n = c.length) (hX : S.X = X1 ++ (.slice (some ⟨b, o, Option.none⟩) n cap, c) :: X2) :
    Sg w0 (bkT w0.heap.size { S with X := X1 ++ (.slice (some ⟨b, o, Option.none⟩) n cap, c.set i z) :: X2 } ++ Us) (w.setCell ⟨b, o + i, Option.none⟩ (.int .i64 z)) := by
  have hP := h.ok 10 (thWR w0.heap.size S.X) rfl
  have hob : (Value.slice (some ⟨b, o, Option.none⟩) n cap).ownBlock = some b := by simp [Value.ownBlock]
  have hm : (Value.slice (some ⟨b, o, Option.none⟩) n cap, c) ∈ S.X := by rw [hX]; simp
  have key := h.set (i := 10) (t := thWR w0.heap.size S.X) (t' := thWR w0.heap.size (X1 ++ (.slice (some ⟨b, o, Option.none⟩) n cap, c.set i z) :: X2)) rfl ((Fr.refl _ w).setCell (p := ⟨b, o + i, Option.none⟩) (.inl (mem_xF.2 ⟨_, hm, hob⟩)) (.int .i64 z)) ?_ ?_
  · exact key
  · obtain ⟨h1, h2⟩ := hP
    rw [hX] at h2
    obtain ⟨p1, p2, p3⟩ := List.pairwise_append.1 h2
    obtain ⟨p4, p5⟩ := List.pairwise_cons.1 p2
    refine ⟨fun x hx => ?_, List.pairwise_append.2 ⟨p1, List.pairwise_cons.2 ⟨p4, p5⟩, fun x hx y hy => ?_⟩⟩
    · rcases List.mem_append.1 hx with e | e
      · exact (h1 x (by rw [hX]; exact List.mem_append_left _ e)).far (fun j hj hjb => p3 x e (.slice (some ⟨b, o, Option.none⟩) n cap, c) (by simp) j hj (by rw [hob, hjb])) _
      · rcases List.mem_cons.1 e with rfl | e
        · have hq : Lst w w0.heap.size 3 1 (.slice (some ⟨b, o, Option.none⟩) n cap) n (bV c) := by
            have hh := h1 _ hm
            simp only [← hn] at hh
            exact hh
          have hp := hq.put (j := i) (.int .i64 z)
          have he : (bV c).set i (.int .i64 z) = bV (c.set i z) := by unfold bV; rw [List.map_set]
          rw [he] at hp
          show Lst _ _ _ 1 _ (c.set i z).length _
          rw [List.length_set, ← hn]
          exact hp
        · exact (h1 x (by rw [hX]; exact List.mem_append_right _ (List.mem_cons_of_mem _ e))).far (fun j hj hjb => p4 x e b hob (by rw [hj, hjb])) _
    · rcases List.mem_cons.1 hy with rfl | hy
      · exact p3 x hx (.slice (some ⟨b, o, Option.none⟩) n cap, c) (by simp)
      · exact p3 x hx y (List.mem_cons_of_mem _ hy)
  · intro x hx
    obtain ⟨y, hy, hb⟩ := mem_xF.1 hx
    refine .inl (mem_xF.2 ?_)
    rw [hX]
    rcases List.mem_append.1 hy with e | e
    · exact ⟨y, List.mem_append_left _ e, hb⟩
    · rcases List.mem_cons.1 e with rfl | e
      · exact ⟨_, List.mem_append_right _ (List.mem_cons_self ..), hb⟩
      · exact ⟨y, List.mem_append_right _ (List.mem_cons_of_mem _ e), hb⟩
/-- Their order is of no account. -/
theorem Sg.perm {S : BS} {X' : List (Value × List Int)} (h : Sg w0 (bkT w0.heap.size S ++ Us) w) (hp : S.X.Perm X') : Sg w0 (bkT w0.heap.size { S with X := X' } ++ Us) w := by
  have hP := h.ok 10 (thWR w0.heap.size S.X) rfl
  have key := h.set (i := 10) (t := thWR w0.heap.size S.X) (t' := thWR w0.heap.size X') rfl (Fr.refl _ w) ⟨fun x hx => hP.1 x (hp.mem_iff.2 hx), (hp.pairwise_iff (fun {x y} hxy k hk hk2 => hxy k hk2 hk)).1 hP.2⟩ (fun x hx => by
    obtain ⟨y, hy, hb⟩ := mem_xF.1 hx
    exact .inl (mem_xF.2 ⟨y, hp.mem_iff.2 hy, hb⟩))
  exact key
/-- A copy is only read from now on. -/
theorem Sg.ro {S : BS} {v : Value} {c : List Int} (h : Sg w0 (bkT w0.heap.size S ++ (Us ++ [thLst w0.heap.size 3 v (bV c)])) w) : Sg w0 (bkT w0.heap.size { S with Q := S.Q ++ [(v, c)], FQ := S.FQ ++ v.ownBlock.toList } ++ Us) w := by
  have hj : (bkT w0.heap.size S ++ (Us ++ [thLst w0.heap.size 3 v (bV c)]))[11 + Us.length]? = some (thLst w0.heap.size 3 v (bV c)) := by
    rw [List.getElem?_append_right (by rw [bkT_len]; omega), bkT_len, Nat.add_sub_cancel_left, List.getElem?_append_right (Nat.le_refl _), Nat.sub_self]
    rfl
  have hP := h.ok 9 (thRO w0.heap.size S.Q S.FQ) rfl
  have hL := h.ok _ _ hj
  have hLt : Lst w w0.heap.size 3 1 v (bV c).length (bV c) := hL
  have h1 := h.join (i := 9) (j := 11 + Us.length) (t' := thRO w0.heap.size (S.Q ++ [(v, c)]) (S.FQ ++ v.ownBlock.toList)) rfl hj (by omega) ?_ (fun x hx => by
    rcases List.mem_append.1 hx with e | e
    · exact .inl e
    · exact .inr e)
  · have h2 := h1.take (11 + Us.length)
    have e : (((bkT w0.heap.size S ++ (Us ++ [thLst w0.heap.size 3 v (bV c)])).set 9 (thRO w0.heap.size (S.Q ++ [(v, c)]) (S.FQ ++ v.ownBlock.toList))).set (11 + Us.length) (thNil w0.heap.size)).take (11 + Us.length) = bkT w0.heap.size { S with Q := S.Q ++ [(v, c)], FQ := S.FQ ++ v.ownBlock.toList } ++ Us := by
      rw [List.take_set, List.set_eq_of_length_le (by rw [List.length_take]; omega)]
      show List.take (11 + Us.length) (bkT w0.heap.size { S with Q := S.Q ++ [(v, c)], FQ := S.FQ ++ v.ownBlock.toList } ++ (Us ++ [thLst w0.heap.size 3 v (bV c)])) = _
      rw [← List.append_assoc, List.take_left' (by rw [List.length_append, bkT_len])]
    rw [e] at h2
    exact h2
  · obtain ⟨p1, p2⟩ := hP
    refine ⟨fun q hq => ?_, fun x hx => ?_⟩
    · rcases List.mem_append.1 hq with e | e
      · obtain ⟨k1, k2⟩ := p1 q e
        exact ⟨k1, fun k hk => List.mem_append_left _ (k2 k hk)⟩
      · obtain rfl : q = (v, c) := by simpa using e
        rw [bV_len] at hLt
        exact ⟨hLt.rdv, fun k hk => List.mem_append_right _ (by simp at hk; simp [hk])⟩
    · rcases List.mem_append.1 hx with e | e
      · exact p2 x e
      · exact hLt.lt x (by simpa using e)
/-- A list handed over. -/
theorem Sg.wadd {S : BS} {v : Value} {c : List Int} {j : Nat} (h : Sg w0 (bkT w0.heap.size S ++ Us) w) (hj : Us[j]? = some (thLst w0.heap.size 3 v (bV c))) : Sg w0 (bkT w0.heap.size { S with X := S.X ++ [(v, c)] } ++ Us.set j (thNil w0.heap.size)) w := by
  have hj2 : (bkT w0.heap.size S ++ Us)[11 + j]? = some (thLst w0.heap.size 3 v (bV c)) := by
    rw [List.getElem?_append_right (by rw [bkT_len]; omega), bkT_len, Nat.add_sub_cancel_left]
    exact hj
  have hP := h.ok 10 (thWR w0.heap.size S.X) rfl
  have hLt : Lst w w0.heap.size 3 1 v (bV c).length (bV c) := h.ok _ _ hj2
  have hap := h.ap 10 (11 + j) (thWR w0.heap.size S.X) _ (by omega) rfl hj2
  have h1 := h.join (i := 10) (j := 11 + j) (t' := thWR w0.heap.size (S.X ++ [(v, c)])) rfl hj2 (by omega) ?_ (fun x hx => by
    obtain ⟨y, hy, hb⟩ := mem_xF.1 hx
    rcases List.mem_append.1 hy with e | e
    · exact .inl (mem_xF.2 ⟨y, e, hb⟩)
    · obtain rfl : y = (v, c) := by simpa using e
      have hb : v.ownBlock = some x := hb
      exact .inr (by simp [thLst, hb]))
  · have e : ((bkT w0.heap.size S ++ Us).set 10 (thWR w0.heap.size (S.X ++ [(v, c)]))).set (11 + j) (thNil w0.heap.size) = bkT w0.heap.size { S with X := S.X ++ [(v, c)] } ++ Us.set j (thNil w0.heap.size) := by
      show (bkT w0.heap.size { S with X := S.X ++ [(v, c)] } ++ Us).set (11 + j) (thNil w0.heap.size) = _
      rw [List.set_append_right _ _ (by rw [bkT_len]; omega), bkT_len, Nat.add_sub_cancel_left]
    rw [e] at h1
    exact h1
  · refine ⟨fun x hx => ?_, List.pairwise_append.2 ⟨hP.2, by simp, fun x hx y hy k hk hk2 => ?_⟩⟩
    · rcases List.mem_append.1 hx with e | e
      · exact hP.1 x e
      · obtain rfl : x = (v, c) := by simpa using e
        rw [bV_len] at hLt
        exact hLt
    · obtain rfl : y = (v, c) := by simpa using hy
      have hk2 : v.ownBlock = some k := hk2
      exact hap k (mem_xF.2 ⟨x, hx, hk⟩) (by simp [thLst, hk2])
end
end Go.Proofs.YtdcppdgnekhcgaaGreatDoor
