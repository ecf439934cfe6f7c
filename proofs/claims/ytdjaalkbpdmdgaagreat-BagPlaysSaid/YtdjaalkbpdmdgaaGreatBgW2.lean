/-
  Bag, the document's table of words by number: Set, Drop.
-/
import Derived.Test.YtdjaalkbpdmdgaaGreatBgW1
namespace Go.Proofs.YtdjaalkbpdmdgaaGreat
open Go.RowKit
set_option linter.unusedVariables false

section
variable {t kt vt : TypeId} {b0 g : Nat} {w w1 w2 : World} {kv vv : Value} {ks vs : List Value}
/-- What has become of a table. -/
def RwS (t kt vt : TypeId) (b0 g : Nat) (kv vv : Value) (w : World) (kv' vv' : Value) (ks' vs' : List Value) (w' : World) : Prop :=
  Rw t kt vt b0 w' g kv' vv' ks' vs' ∧ Fr (rwT g kv vv) w w' ∧ ∀ x ∈ rwT g kv' vv', x ∈ rwT g kv vv ∨ w.heap.size ≤ x
theorem RwS.refl (h : Rw t kt vt b0 w g kv vv ks vs) : RwS t kt vt b0 g kv vv w kv vv ks vs w := ⟨h, Fr.refl _ _, fun x hx => .inl hx⟩
theorem RwS.trans {kv1 vv1 kv2 vv2 : Value} {ks1 vs1 ks2 vs2 : List Value} (h : RwS t kt vt b0 g kv vv w kv1 vv1 ks1 vs1 w1) (k : RwS t kt vt b0 g kv1 vv1 w1 kv2 vv2 ks2 vs2 w2) : RwS t kt vt b0 g kv vv w kv2 vv2 ks2 vs2 w2 :=
  ⟨k.1, h.2.1.trans k.2.1 h.2.2, fun x hx => by
    rcases k.2.2 x hx with e | e
    · exact h.2.2 x e
    · exact .inr (Nat.le_trans h.2.1.size e)⟩
/-- The keys' list laid anew. -/
theorem Rw.putK {v' : Value} {ks' : List Value} (h : Rw t kt vt b0 w g kv vv ks vs) (h1 : kt ≠ t) (h2 : vt ≠ t) (h3 : kt ≠ vt) (hf : Fr kv.ownBlock.toList w w1) (hL : Lst w1 b0 kt 1 v' ks'.length ks') (hv : ∀ k, v'.ownBlock = some k → kv.ownBlock = some k ∨ w.heap.size ≤ k) :
    Bk w1 g t #[kv, vv] ∧ RwS t kt vt b0 g kv vv w v' vv ks' vs (w1.setCell ⟨g, 0, none⟩ v') := by
  have hB1 := h.B.fr hf (fun hx => h.K.ne_bk h.B h1 g (by simpa using hx) rfl)
  have hV1 := h.V.fr hf (fun k hk hx => h.V.ne_lst h.K (Ne.symm h3) k hk hx)
  refine ⟨hB1, ⟨hB1.put 0 v', hL.far (hL.ne_bk hB1 h1) _, hV1.far (hV1.ne_bk hB1 h2) _, h.b⟩, (hf.mono (fun x hx => .inl (by simp only [rwT, List.mem_cons, List.mem_append]; exact .inr (.inl hx)))).setCell (.inl (by simp [rwT])) _, fun x hx => ?_⟩
  simp only [rwT, List.mem_cons, List.mem_append, Option.mem_toList] at hx ⊢
  rcases hx with e | e | e
  · exact .inl (.inl e)
  · exact (hv x e).imp (fun hh => .inr (.inl hh)) id
  · exact .inl (.inr (.inr e))
theorem Rw.putV {v' : Value} {vs' : List Value} (h : Rw t kt vt b0 w g kv vv ks vs) (h1 : kt ≠ t) (h2 : vt ≠ t) (h3 : kt ≠ vt) (hf : Fr vv.ownBlock.toList w w1) (hL : Lst w1 b0 vt 1 v' vs'.length vs') (hv : ∀ k, v'.ownBlock = some k → vv.ownBlock = some k ∨ w.heap.size ≤ k) :
    Bk w1 g t #[kv, vv] ∧ RwS t kt vt b0 g kv vv w kv v' ks vs' (w1.setCell ⟨g, 1, none⟩ v') := by
  have hB1 := h.B.fr hf (fun hx => h.V.ne_bk h.B h2 g (by simpa using hx) rfl)
  have hK1 := h.K.fr hf (fun k hk hx => h.K.ne_lst h.V h3 k hk hx)
  refine ⟨hB1, ⟨hB1.put 1 v', hK1.far (hK1.ne_bk hB1 h1) _, hL.far (hL.ne_bk hB1 h2) _, h.b⟩, (hf.mono (fun x hx => .inl (by simp only [rwT, List.mem_cons, List.mem_append]; exact .inr (.inr hx)))).setCell (.inl (by simp [rwT])) _, fun x hx => ?_⟩
  simp only [rwT, List.mem_cons, List.mem_append, Option.mem_toList] at hx ⊢
  rcases hx with e | e | e
  · exact .inl (.inl e)
  · exact .inl (.inr (.inl e))
  · exact (hv x e).imp (fun hh => .inr (.inr hh)) id
/-- A key's cell, a value's cell stored. -/
theorem Rw.cellK {gl off cap i : Nat} {u : Value} (h : Rw t kt vt b0 w g kv vv ks vs) (h1 : kt ≠ t) (h3 : kt ≠ vt) (hv : kv = .slice (some ⟨gl, off, none⟩) ks.length cap) : RwS t kt vt b0 g kv vv w kv vv (ks.set i u) vs (w.setCell ⟨gl, off + i, none⟩ u) := by
  have ho : kv.ownBlock = some gl := by rw [hv]; simp [Value.ownBlock]
  have hL := h.K
  rw [hv] at hL
  have hp := hL.put (j := i) u
  refine ⟨⟨h.B.far (p := ⟨gl, off + i, none⟩) (fun e => h.K.ne_bk h.B h1 gl ho e.symm) _, by rw [hv, List.length_set]; exact hp, h.V.far (fun j hj e => h.V.ne_lst h.K (Ne.symm h3) j hj (by rw [ho]; simp [e])) _, h.b⟩, (Fr.refl _ _).setCell (.inl (by simp [rwT, ho])) _, fun x hx => .inl hx⟩
theorem Rw.cellV {gl off cap i : Nat} {u : Value} (h : Rw t kt vt b0 w g kv vv ks vs) (h2 : vt ≠ t) (h3 : kt ≠ vt) (hv : vv = .slice (some ⟨gl, off, none⟩) vs.length cap) : RwS t kt vt b0 g kv vv w kv vv ks (vs.set i u) (w.setCell ⟨gl, off + i, none⟩ u) := by
  have ho : vv.ownBlock = some gl := by rw [hv]; simp [Value.ownBlock]
  have hL := h.V
  rw [hv] at hL
  have hp := hL.put (j := i) u
  refine ⟨⟨h.B.far (p := ⟨gl, off + i, none⟩) (fun e => h.V.ne_bk h.B h2 gl ho e.symm) _, h.K.far (fun j hj e => h.K.ne_lst h.V h3 j hj (by rw [ho]; simp [e])) _, by rw [hv, List.length_set]; exact hp, h.b⟩, (Fr.refl _ _).setCell (.inl (by simp [rwT, ho])) _, fun x hx => .inl hx⟩
end
theorem set_self' {α : Type} : ∀ {l : List α} {i : Nat} {x : α}, l[i]? = some x → l.set i x = l
  | [], i, x, h => by simp at h
  | a :: l, 0, x, h => by simp at h; simp [h]
  | a :: l, i + 1, x, h => by simp at h; simp [set_self' h]
theorem u64_info : (Tryz.prog.info? 29).map (fun i => (i.zero, i.size, i.bytes)) = some (some (.int .u64 0), 1, 8) := by kernel_rfl
def rsetR (r : List PN) (k x : Int) : List PN := match findA r k with | some i => r.set i (k, x) | none => r ++ [(k, x)]
theorem findA_at {r : List PN} {k : Int} {i : Nat} (h : findA r k = some i) : ∃ v, r[i]? = some (k, v) ∧ i < r.length := by
  unfold findA at h
  rw [List.findIdx?_eq_some_iff_getElem] at h
  obtain ⟨h1, h2, _⟩ := h
  have : r[i].1 = k := by simpa using h2
  exact ⟨r[i].2, by rw [List.getElem?_eq_getElem h1, ← this], h1⟩

set_option maxRecDepth 100000 in
set_option maxHeartbeats 800000 in
theorem wset_any (b0 g : Nat) (kv vv : Value) (r : List PN) (k x : Int) (w : World) (h : RwN b0 w g kv vv r) (hl : r.length ≤ 1000000) (hb : b0 ≤ w.heap.size) :
    Calls Tryz.prog 57 #[.pointer (some ⟨g, 0, none⟩), .int .i64 k, .int .u64 x] w fun e w' => e = .returned (.bool (findA r k).isNone) ∧ ∃ kv' vv', RwS 71 3 29 b0 g kv vv w kv' vv' (rkN (rsetR r k x)) (rvN (rsetR r k x)) w' := by
  have HF := Lib.hid (wfind_any b0 g kv vv r k w h hl)
  cases hf : findA r k with
  | some i =>
    obtain ⟨v0, hp, hi⟩ := findA_at hf
    have e2 : findI r k = (i : Int) := by unfold findI; rw [hf]
    rw [e2] at HF
    have eK : rkN (rsetR r k x) = rkN r := by
      unfold rsetR rkN
      rw [hf]
      simp only
      rw [List.map_set]
      exact set_self' (by rw [List.getElem?_map, hp]; rfl)
    have eV : rvN (rsetR r k x) = (rvN r).set i (.int .u64 x) := by
      unfold rsetR rvN
      rw [hf]
      simp only
      rw [List.map_set]
      rfl
    have hV := h.V
    obtain ⟨gl, off, cap, hv, _, _, _, _, _, hfz, hcl⟩ := hV.form (by rw [rvN_len]; omega)
    have HEND : Hid (∃ kv' vv', RwS 71 3 29 b0 g kv vv w kv' vv' (rkN (rsetR r k x)) (rvN (rsetR r k x)) (w.setCell ⟨gl, off + i, none⟩ (.int .u64 x))) := by
      rw [eK, eV]
      exact ⟨kv, vv, h.cellV (by decide) (by decide) hv⟩
    obtain ⟨n, hn⟩ : ∃ n, r.length = n := ⟨_, rfl⟩
    have hlen : (rvN r).length = n := by rw [rvN_len, hn]
    rw [hlen] at hv
    have c1 : w.cell? ⟨g, 1, none⟩ = some (.slice (some ⟨gl, off, none⟩) n cap) := by rw [← hv]; exact h.B.cell 1
    have cx := hcl i _ (rvN_at hp)
    have fx := hfz (off + i)
    unfold vN at cx
    have i0 : (0 : Int) ≤ (i : Int) := by omega
    have i1 : (i : Int) < (n : Int) := by omega
    have i2 : decide (0 ≤ (i : Int)) = true := decide_eq_true i0
    clear h e2 hf hV hv hcl hn hp hlen hfz eK eV hl hi
    go_enter Tryz.func57, Tryz.ntmps57
    go_wp2_with fail
    refine (Calls.mono HF.out ?_)
    rintro e w' ⟨rfl, rfl⟩
    go_wp2_with fail
    go_ret
    exact ⟨rfl, HEND.out⟩
  | none =>
    have e2 : findI r k = -1 := by unfold findI; rw [hf]
    rw [e2] at HF
    have eK : rkN (rsetR r k x) = rkN r ++ [.int .i64 k] := by
      unfold rsetR rkN
      rw [hf]
      simp only
      rw [List.map_append]
      rfl
    have eV : rvN (rsetR r k x) = rvN r ++ [.int .u64 x] := by
      unfold rsetR rvN
      rw [hf]
      simp only
      rw [List.map_append]
      rfl
    obtain ⟨n, hn⟩ : ∃ n, r.length = n := ⟨_, rfl⟩
    have lk : (rkN r).length = n := by rw [rkN_len, hn]
    have lv : (rvN r).length = n := by rw [rvN_len, hn]
    rw [hn] at hl
    have hK := h.K
    have hV := h.V
    rw [lk] at hK
    rw [lv] at hV
    obtain ⟨A1, p1, hk1, _, _⟩ := hK.look
    obtain ⟨A2, p2, hv1, _, _⟩ := hV.look
    have HK := Lib.hid hK
    have H0 := Lib.hid h
    have HV1 := Lib.hid hv1
    have HK1 := Lib.hid hk1
    have c0 : w.cell? ⟨g, 0, none⟩ = some (.slice A1 n p1) := by rw [← hk1]; exact h.B.cell 0
    have HS1 : Hid (∀ w1 v', Fr kv.ownBlock.toList w w1 → Lst w1 b0 3 1 v' (n + 1) (rkN r ++ [.int .i64 k]) → (∀ k, v'.ownBlock = some k → kv.ownBlock = some k ∨ w.heap.size ≤ k) → Bk w1 g 71 #[kv, vv] ∧ RwS 71 3 29 b0 g kv vv w v' vv (rkN r ++ [.int .i64 k]) (rvN r) (w1.setCell ⟨g, 0, none⟩ v')) := fun w1 v' f1 f2 f3 =>
      H0.out.putK (by decide) (by decide) (by decide) f1 (by rw [List.length_append, lk]; exact f2) f3
    have HEQ : Hid (rkN (rsetR r k x) = rkN r ++ [.int .i64 k] ∧ rvN (rsetR r k x) = rvN r ++ [.int .u64 x] ∧ (rvN r).length = n) := ⟨eK, eV, lv⟩
    obtain ⟨i2, hi2, hz2, hs2, hb2⟩ := info_parts' int_info
    obtain ⟨i3, hi3, hz3, hs3, hb3⟩ := info_parts' u64_info
    subst hk1
    clear h e2 hf hn lk lv hK hV eK eV
    go_enter Tryz.func57, Tryz.ntmps57
    go_wp2_with fail
    refine (Calls.mono HF.out ?_)
    rintro e w' ⟨rfl, rfl⟩
    go_wp2_with (at_builtin; refine wpList_append_lst _ rfl (.tmp 24) (.tmp 26) _ rfl b0 3 i2 _ 1 8 Tryz.underlying68 hi2 hz2 hs2 hb2 rfl _ n (rkN r) rfl (HK.out.alloc _) ⟨w.heap.size, 0, none⟩ 1 1 [.int .i64 k] rfl rfl (World.news_of_block (heap_alloc_new _ _)) ?cA ?cB ?cC ?cD ?cE)
    case cA => simp [Value.oneCell']
    case cB => unfold maxLen; omega
    case cC => omega
    case cD => first | omega | (simp; omega)
    case cE =>
      intro v2 w3 hown hgrow hat
      obtain ⟨q1, q2⟩ := HS1.out w3 v2 (((Fr.refl _ _).alloc _).grown hgrow (fun j hj => .inl (by simp [hj]))) hown (own_or (by simp) hat)
      have d7 := q1.cell 0
      have f7 := q1.free 0
      obtain ⟨A5, p5, rfl, _, _⟩ := hown.look
      obtain ⟨w4, hw4⟩ : ∃ w4, w3.setCell ⟨g, 0, none⟩ (.slice A5 (n + 1) p5) = w4 := ⟨_, rfl⟩
      rw [hw4] at q2
      have Q2 := Lib.hid q2
      have hV4 := q2.1.V
      rw [HEQ.out.2.2, HV1.out] at hV4
      have c4 : w4.cell? ⟨g, 1, none⟩ = some (.slice A2 n p2) := by rw [← HV1.out]; exact q2.1.B.cell 1
      have HV4 := Lib.hid hV4
      have hs4 : b0 ≤ w4.heap.size := Nat.le_trans hb q2.2.1.size
      have HS2 : Hid (∀ w5 v', Fr vv.ownBlock.toList w4 w5 → Lst w5 b0 29 1 v' (n + 1) (rvN r ++ [.int .u64 x]) → (∀ k, v'.ownBlock = some k → vv.ownBlock = some k ∨ w4.heap.size ≤ k) → Bk w5 g 71 #[.slice A5 (n + 1) p5, vv] ∧ ∃ kv' vv', RwS 71 3 29 b0 g (.slice A1 n p1) vv w kv' vv' (rkN (rsetR r k x)) (rvN (rsetR r k x)) (w5.setCell ⟨g, 1, none⟩ v')) := fun w5 v' f1 f2 f3 => by
        obtain ⟨z1, z2⟩ := Q2.out.1.putV (vs' := rvN r ++ [.int .u64 x]) (by decide) (by decide) (by decide) f1 (by rw [List.length_append, HEQ.out.2.2]; exact f2) f3
        rw [HEQ.out.1, HEQ.out.2.1]
        exact ⟨z1, _, _, Q2.out.trans z2⟩
      rw [HV1.out] at HS2
      clear hown hgrow hat q1 q2 hV4
      go_upto_region 6 with fail
      try rw [hw4]
      clear hw4 d7 f7 c0
      go_wp2_with (at_builtin; refine wpList_append_lst _ rfl (.tmp 34) (.tmp 36) _ rfl b0 29 i3 _ 1 8 Tryz.underlying69 hi3 hz3 hs3 hb3 rfl _ n (rvN r) rfl (HV4.out.alloc _) ⟨w4.heap.size, 0, none⟩ 1 1 [.int .u64 x] rfl rfl (World.news_of_block (heap_alloc_new _ _)) ?dA ?dB ?dC ?dD ?dE)
      case dA => simp [Value.oneCell']
      case dB => unfold maxLen; omega
      case dC => omega
      case dD => first | omega | (simp; omega)
      case dE =>
        intro v6 w5 hown hgrow hat
        obtain ⟨q1, q2⟩ := HS2.out w5 v6 (((Fr.refl _ _).alloc _).grown hgrow (fun j hj => .inl (by simp [hj]))) hown (own_or (by simp) hat)
        have Q5 := Lib.hid q2
        have d5 := q1.cell 1
        have f5 := q1.free 1
        obtain ⟨A6, p6, rfl, _, _⟩ := hown.look
        clear hown hgrow hat q1 q2
        go_wp2_with fail
        go_ret
        rw [HV1.out]
        exact ⟨rfl, Q5.out⟩
end Go.Proofs.YtdjaalkbpdmdgaaGreat
