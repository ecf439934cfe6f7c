/-
  Bag: Map of a queue of numbers; a step of a script on the queues.
-/
import Derived.Test.YtdjaalkbpdmdgaaGreatBgT7
import Derived.Deep.CutRange
import Derived.Test.YtdjaalkbpdmdgaaGreatBgT12
namespace Go.Proofs.YtdjaalkbpdmdgaaGreat
open Go.RowKit
set_option linter.unusedVariables false

def f3 (n x : Int) : Int := wrap64 (wrap64 (3 * x) + n)
/-- A turner: its number, what it has seen. -/
structure Tn (b0 : Nat) (w : World) (g : Nat) (n : Int) (v : Value) (l : List Int) : Prop where
  B : Bk w g 94 #[.int .i64 n, v, .slice none 0 0]
  L : Lst w b0 3 1 v l.length (iV l)
  b : b0 ≤ g
theorem Tn.fr {b0 : Nat} {w w' : World} {g : Nat} {n : Int} {v : Value} {l : List Int} {S : List Nat} (h : Tn b0 w g n v l) (hf : Fr S w w') (hS : ∀ x ∈ skT g v, x ∉ S) : Tn b0 w' g n v l :=
  ⟨h.B.fr hf (hS g (by simp [skT])), h.L.fr hf (fun k hk => hS k (by simp [skT, hk])), h.b⟩
theorem Tn.lt {b0 : Nat} {w : World} {g : Nat} {n : Int} {v : Value} {l : List Int} (h : Tn b0 w g n v l) : ∀ x ∈ skT g v, b0 ≤ x ∧ x < w.heap.size := by
  intro x hx
  simp only [skT, List.mem_cons, Option.mem_toList] at hx
  rcases hx with rfl | hx
  · exact ⟨h.b, h.B.lt⟩
  · exact h.L.lt x hx
def thTn (b0 g : Nat) (n : Int) (v : Value) (l : List Int) : Th b0 := ⟨skT g v, fun w => Tn b0 w g n v l, fun h hf hS => h.fr hf hS, fun h => h.lt⟩
def TnTo (b0 g : Nat) (n : Int) (v : Value) (l : List Int) (r : Value) (w : World) (e : Ending) (w' : World) : Prop :=
  e = .returned r ∧ ∃ v', Tn b0 w' g n v' l ∧ Fr (skT g v) w w' ∧ ∀ x ∈ skT g v', x ∈ skT g v ∨ w.heap.size ≤ x
theorem Sg.tn {w0 w w' : World} {Ts : List (Th w0.heap.size)} {e : Ending} {r v : Value} {g i : Nat} {n : Int} {l l' : List Int} (h : Sg w0 Ts w) (hi : Ts[i]? = some (thTn w0.heap.size g n v l)) (ho : TnTo w0.heap.size g n v l' r w e w') : e = .returned r ∧ ∃ v', Sg w0 (Ts.set i (thTn w0.heap.size g n v' l')) w' := by
  obtain ⟨h1, v', h2, h3, h4⟩ := ho
  exact ⟨h1, v', h.set hi h3 h2 h4⟩

set_option maxRecDepth 100000 in
set_option maxHeartbeats 800000 in
theorem of_any (b0 g : Nat) (n : Int) (v : Value) (l : List Int) (x : Int) (w : World) (h : Tn b0 w g n v l) (hl : l.length ≤ 1000000) (hb : b0 ≤ w.heap.size) :
    Calls Tryz.prog 43 #[.pointer (some ⟨g, 0, none⟩), .int .i64 x] w (TnTo b0 g n v (l ++ [x]) (.int .i64 (f3 n x)) w) := by
  obtain ⟨i2, hi2, hz2, hs2, hb2⟩ := info_parts' int_info
  obtain ⟨m, hm⟩ : ∃ m, l.length = m := ⟨_, rfl⟩
  have hL := h.L
  rw [hm] at hL hl
  obtain ⟨A, cp, rfl, _, _⟩ := hL.look
  have c1 : w.cell? ⟨g, 1, none⟩ = some (.slice A m cp) := h.B.cell 1
  have HEND : Hid (∀ (w1 : World) (v' : Value), Fr (Value.slice A m cp).ownBlock.toList w w1 → Lst w1 b0 3 1 v' (m + 1) (iV l ++ [.int .i64 x]) → (∀ k, v'.ownBlock = some k → (Value.slice A m cp).ownBlock = some k ∨ w.heap.size ≤ k) →
      Bk w1 g 94 #[.int .i64 n, .slice A m cp, .slice none 0 0] ∧ Bk (w1.setCell ⟨g, 1, none⟩ v') g 94 #[.int .i64 n, v', .slice none 0 0] ∧ TnTo b0 g n (.slice A m cp) (l ++ [x]) (.int .i64 (f3 n x)) w (.returned (.int .i64 (f3 n x))) (w1.setCell ⟨g, 1, none⟩ v')) := fun w1 v' hf hL' hv' => by
    have hB1 := h.B.fr hf (fun hx => h.L.ne_bk h.B (by decide) g (by simpa using hx) rfl)
    have hB2 := hB1.put 1 v'
    refine ⟨hB1, hB2, rfl, v', ⟨hB2, ?_, h.b⟩, (hf.mono (fun y hy => .inl (by simp only [skT, List.mem_cons]; exact .inr hy))).setCell (.inl (by simp [skT])) _, fun y hy => ?_⟩
    · have := hL'.far (p := ⟨g, 1, none⟩) (hL'.ne_bk hB1 (by decide)) v'
      unfold iV at this ⊢
      rw [List.length_append, List.map_append, hm]
      exact this
    · simp only [skT, List.mem_cons, Option.mem_toList] at hy ⊢
      rcases hy with e | e
      · exact .inl (.inl e)
      · exact (hv' y e).imp (fun hh => .inr hh) id
  have HL := Lib.hid hL
  unfold f3 at HEND ⊢
  clear h hL
  go_enter Tryz.func43, Tryz.ntmps43
  go_wp2_with (at_builtin; refine wpList_append_lst _ rfl (.tmp 9) (.tmp 11) _ rfl b0 3 i2 _ 1 8 Tryz.underlying68 hi2 hz2 hs2 hb2 rfl (.slice A m cp) m (iV l) rfl (HL.out.alloc _) ⟨w.heap.size, 0, none⟩ 1 1 [.int .i64 x] rfl rfl (World.news_of_block (heap_alloc_new _ _)) ?cA ?cB ?cC ?cD ?cE)
  case cA => simp [Value.oneCell']
  case cB => unfold maxLen; omega
  case cC => omega
  case cD => first | omega | (simp; omega)
  case cE =>
    intro v2 w7 hown hgrow hat
    obtain ⟨q1, q2, q3⟩ := HEND.out w7 v2 (((Fr.refl _ _).alloc _).grown hgrow (fun j hj => .inl (by simp [hj]))) hown (own_or (by simp) hat)
    have HQ := Lib.hid q3
    have c7 := q1.cell 1
    have f7 := q1.free 1
    have e7 := q2.cell 0
    obtain ⟨A2, cap2, rfl, _, _⟩ := hown.look
    clear hown hgrow hat q1 q2 q3
    go_wp2_with fail
    go_ret
    exact HQ.out
end Go.Proofs.YtdjaalkbpdmdgaaGreat
namespace Go.Proofs.YtdjaalkbpdmdgaaGreat
open Go.RowKit
set_option linter.unusedVariables false

theorem map_step {L : List Int} {f : Int → Int} {k : Nat} {x : Int} (h : L[k]? = some x) : ((L.take k).map f ++ L.drop k)[k]? = some x ∧ ((L.take k).map f ++ L.drop k).set k (f x) = (L.take (k + 1)).map f ++ L.drop (k + 1) := by
  obtain ⟨h1, h2⟩ := List.getElem?_eq_some_iff.1 h
  have hl : ((L.take k).map f).length = k := by simp; omega
  have hd : L.drop k = x :: L.drop (k + 1) := by rw [List.drop_eq_getElem_cons h1, h2]
  refine ⟨?_, ?_⟩
  · rw [List.getElem?_append_right (by omega), hl, hd]
    simp
  · rw [List.set_append_right _ _ (by omega), hl, hd, List.take_succ_eq_append_getElem h1, h2]
    simp
/-- What Map leaves. -/
def MapO (w0 : World) (Ts : List (Th w0.heap.size)) (g bt ja jt : Nat) (most n : Int) (L L2 : List Int) (w' : World) : Prop :=
  ∃ Ts' v vt, Sg w0 Ts' w' ∧ Chg Ts Ts' ja jt ∧ Ts'[ja]? = some (thSk 122 w0.heap.size g most v L2) ∧ Ts'[jt]? = some (thTn w0.heap.size bt n vt L)

set_option maxRecDepth 100000 in
set_option maxHeartbeats 1600000 in
theorem map_any {w0 w : World} {Ts : List (Th w0.heap.size)} {g bt ja jt : Nat} {most n : Int} {v vt : Value} {L : List Int} (h : Sg w0 Ts w) (ha : Ts[ja]? = some (thSk 122 w0.heap.size g most v L)) (ht : Ts[jt]? = some (thTn w0.heap.size bt n vt [])) (hab : ja ≠ jt) (hL : L.length ≤ 100000) :
    Calls Tryz.prog 42 #[.pointer (some ⟨g, 0, none⟩), .func (.func 43) #[.pointer (some ⟨bt, 0, none⟩)] #[]] w fun e w' => e = .returned (.tuple #[]) ∧ MapO w0 Ts g bt ja jt most n L (L.map (f3 n)) w' := by
  have hla := (List.getElem?_eq_some_iff.1 ha).1
  have hlt := (List.getElem?_eq_some_iff.1 ht).1
  obtain ⟨m, hm⟩ : ∃ m, L.length = m := ⟨_, rfl⟩
  have HM := Lib.hid hm
  have hs := h.sk_at ha
  obtain ⟨A, cp, hv, _, hcm⟩ := hs.L.look
  rw [hm] at hv
  have c1 : w.cell? ⟨g, 1, none⟩ = some (.slice A m cp) := by rw [← hv]; exact hs.B.cell 1
  subst hv
  have HEG : ∀ args w, (callFunc 43 args).run Tryz.prog w = .ok (.enter 43 args) w := enters_of Tryz.func43 (by kernel_rfl) rfl
  -- the state: the first k turned and seen
  have H0 : Hid (∃ T vt', Sg w0 T w ∧ Chg Ts T ja jt ∧ T[ja]? = some (thSk 122 w0.heap.size g most (.slice A m cp) ((L.take 0).map (f3 n) ++ L.drop 0)) ∧ T[jt]? = some (thTn w0.heap.size bt n vt' (L.take 0))) := ⟨Ts, vt, h, Chg.refl _ _ _, by simpa using ha, by simpa using ht⟩
  rw [hm] at hL
  have HLA : Hid (ja < Ts.length ∧ jt < Ts.length ∧ ja ≠ jt) := ⟨hla, hlt, hab⟩
  clear h ha ht hs hm hla hlt hab
  go_enter Tryz.func42, Tryz.ntmps42
  go_wp2_with fail
  go_loopw [11] (fun j wr => ∃ k : Nat, k ≤ m ∧ j = .int .i64 k ∧ Hid (∃ T vt', Sg w0 T wr ∧ Chg Ts T ja jt ∧ T[ja]? = some (thSk 122 w0.heap.size g most (.slice A m cp) ((L.take k).map (f3 n) ++ L.drop k)) ∧ T[jt]? = some (thTn w0.heap.size bt n vt' (L.take k)))) (fun j _ => m - (intOf j).toNat)
  case atStart => exact ⟨0, by omega, rfl, H0.out⟩
  case round =>
    obtain ⟨k, hk, rfl, hx⟩ := hrel
    obtain ⟨T, vt', t1, t2, t3, t4⟩ := hx.out
    clear hx c1
    by_cases hlk : k < m
    · obtain ⟨x, hxk⟩ : ∃ x, L[k]? = some x := ⟨_, List.getElem?_eq_getElem (by have := HM.out; omega)⟩
      obtain ⟨st1, st2⟩ := map_step (f := f3 n) hxk
      have hs := t1.sk_at t3
      have hlen : ((L.take k).map (f3 n) ++ L.drop k).length = m := by simp; have := HM.out; omega
      have hsL := hs.L
      rw [hlen] at hsL
      obtain ⟨gl, off, cap, hq, _, hgl, _, _, _, hfz, hcl⟩ := hsL.form (by omega)
      injection hq with q1 _ q3
      subst q1 q3
      have cx := hcl k _ (iV_at st1)
      have cq : wr.cell? ⟨g, 1, none⟩ = some (.slice (some ⟨gl, off, none⟩) m cp) := hs.B.cell 1
      have hgq := hs.B.lt
      -- the call
      have htn : Tn w0.heap.size wr bt n vt' (L.take k) := t1.ok jt _ t4
      have HC : Hid (∀ Z, Fr [] wr Z → Calls Tryz.prog 43 #[.pointer (some ⟨bt, 0, none⟩), .int .i64 x] Z (TnTo w0.heap.size bt n vt' (L.take k ++ [x]) (.int .i64 (f3 n x)) Z)) := fun Z hz =>
        of_any _ _ _ _ _ x Z (htn.fr hz (by simp)) (by rw [List.length_take]; omega) (Nat.le_trans t1.fr.size hz.size)
      have htk : L.take (k + 1) = L.take k ++ [x] := by
        obtain ⟨q1, q2⟩ := List.getElem?_eq_some_iff.1 hxk
        rw [List.take_succ_eq_append_getElem q1, q2]
      -- what a store behind the call leaves
      have HAFT : Hid (∀ Z e z, Fr [] wr Z → TnTo w0.heap.size bt n vt' (L.take k ++ [x]) (.int .i64 (f3 n x)) Z e z → e = .returned (.int .i64 (f3 n x)) ∧ z.cell? ⟨g, 1, none⟩ = some (.slice (some ⟨gl, off, none⟩) m cp) ∧ z.cell? ⟨gl, off + k, none⟩ = some (.int .i64 x) ∧ z.frozen? ⟨gl, off + k, none⟩ = false ∧
          ∃ T vt', Sg w0 T (z.setCell ⟨gl, off + k, none⟩ (.int .i64 (f3 n x))) ∧ Chg Ts T ja jt ∧ T[ja]? = some (thSk 122 w0.heap.size g most (.slice (some ⟨gl, off, none⟩) m cp) ((L.take (k + 1)).map (f3 n) ++ L.drop (k + 1))) ∧ T[jt]? = some (thTn w0.heap.size bt n vt' (L.take (k + 1)))) := fun Z e z hZ ho => by
        obtain ⟨rfl, vn, hz⟩ := (t1.nil hZ).tn t4 ho
        have ta : (T.set jt (thTn w0.heap.size bt n vn (L.take k ++ [x])))[ja]? = some (thSk 122 w0.heap.size g most (.slice (some ⟨gl, off, none⟩) m cp) ((L.take k).map (f3 n) ++ L.drop k)) := by rw [List.getElem?_set_ne (Ne.symm HLA.out.2.2)]; exact t3
        have hs2 := hz.sk_at ta
        have hL2 := hs2.L
        rw [hlen] at hL2
        obtain ⟨gl', off', cap', hq', _, _, _, _, _, hfz', hcl'⟩ := hL2.form (by omega)
        injection hq' with r1 _ r3
        injection r1 with r1
        injection r1 with r1 r4
        subst r1 r3 r4
        have hp := hL2.put (j := k) (.int .i64 (f3 n x))
        have e1 : (iV ((L.take k).map (f3 n) ++ L.drop k)).set k (.int .i64 (f3 n x)) = iV ((L.take (k + 1)).map (f3 n) ++ L.drop (k + 1)) := by
          rw [← st2]
          unfold iV
          rw [List.map_set]
        have hlen2 : ((L.take (k + 1)).map (f3 n) ++ L.drop (k + 1)).length = m := by rw [← st2, List.length_set]; exact hlen
        rw [e1] at hp
        refine ⟨rfl, hs2.B.cell 1, hcl' k _ (iV_at st1), hfz' _, _, vn, hz.set (t' := thSk 122 w0.heap.size g most (.slice (some ⟨gl, off, none⟩) m cp) ((L.take (k + 1)).map (f3 n) ++ L.drop (k + 1))) ta ((Fr.refl _ _).setCell (.inl (by simp [thSk, skT, Value.ownBlock])) _) ⟨hs2.B.far (p := ⟨gl, off + k, none⟩) (fun e => (hL2.ne_bk hs2.B (by decide) gl (by simp [Value.ownBlock])) e.symm) _, by rw [hlen2]; exact hp, hs2.b⟩ (fun y hy => .inl hy), (t2.set2 _).set1 _, ?_, ?_⟩
        · rw [List.getElem?_set_self (by rw [List.length_set, t2.1]; exact HLA.out.1)]
        · rw [List.getElem?_set_ne HLA.out.2.2, List.getElem?_set_self (by rw [t2.1]; exact HLA.out.2.1), htk]
      have i0 : (0 : Int) ≤ (k : Int) := by omega
      have i1 : (k : Int) < (m : Int) := by omega
      have i2 : decide ((k : Int) < (m : Int)) = true := decide_eq_true i1
      have hmb : m ≤ 100000 := hL
      clear hxk st1 st2 hs hsL hcl hfz htn htk t1 t2 t3 t4 hlen
      go_upto_region 3 with fail
      go_region_with (go_at_call 43; refine (HC.out _ (by first | exact Fr.refl _ _ | exact (Fr.refl _ _).drew)).mono ?_; intro en z ho; obtain ⟨rfl, e1, e2, e3, e4⟩ := HAFT.out _ en z (by first | exact Fr.refl _ _ | exact (Fr.refl _ _).drew) ho)
      all_goals
        have HX := Lib.hid e4
        clear ho e4
        go_wp2_with fail
        go_roundw
        case rel =>
          first
            | exact ⟨k + 1, by omega, by go_num, HX.out⟩
            | (obtain ⟨T, vn, z1, z2, z3, z4⟩ := HX.out; exact ⟨k + 1, by omega, by go_num, ⟨T, vn, z1.nil ((Fr.refl _ _).drew), z2, z3, z4⟩⟩)
        case measure => simp [intOf]; omega
    · obtain rfl : m = k := by omega
      have HX : Hid (MapO w0 Ts g bt ja jt most n L (L.map (f3 n)) wr) := by
        refine ⟨T, .slice A m cp, vt', t1, t2, ?_, ?_⟩
        · rw [t3, List.take_of_length_le (by have := HM.out; omega), List.drop_eq_nil_of_le (by have := HM.out; omega), List.append_nil]
        · rw [t4, List.take_of_length_le (by have := HM.out; omega)]
      have i2 : decide ((m : Int) < (m : Int)) = false := decide_eq_false (by omega)
      clear t1 t2 t3 t4
      go_wp2_with fail
      go_returns
      exact ⟨rfl, HX.out⟩
end Go.Proofs.YtdjaalkbpdmdgaaGreat
namespace Go.Proofs.YtdjaalkbpdmdgaaGreat
open Go.RowKit
set_option linter.unusedVariables false

theorem wrapEq' (x : Int) : IntKind.i64.wrap x = wrap64 x := by rw [IntKind.wrap_i64]; unfold wrap64; rfl
set_option maxRecDepth 100000 in
set_option maxHeartbeats 1600000 in
theorem d_queue_map {w0 w : World} {Ts : List (Th w0.heap.size)} {gd i gs gr ja jb : Nat} {cs : Array Value} {most : Int} {v v2 : Value} {L : List Int} (hi : i < 2) (h : Sg w0 Ts w) (hd : Ts[0]? = some (thBox w0.heap.size gd 52 cs)) (hc0 : cs[2 + i]? = some (.pointer (some ⟨gs, 0, none⟩))) (hc1 : cs[12 + i]? = some (.pointer (some ⟨gr, 0, none⟩))) (ha : Ts[ja]? = some (thSk 122 w0.heap.size gs most v (L))) (hb : Ts[jb]? = some (thNb 77 3 w0.heap.size gr v2 most (iV L))) (hab : ja ≠ jb) (h0a : ja ≠ 0) (h0b : jb ≠ 0) (hL : L.length ≤ 100000) (s : Bool) (n : Int) (x : Int) (str : ByteArray) (stop : Int) :
    Calls Tryz.prog 21 #[.pointer (some ⟨gd, 0, none⟩), .agg #[.int .i64 7, .bool s, .int .i64 n, .int .u64 x, .string str, .int .i64 stop], .int .i64 i] w (DoN w0 Ts 122 (fun L => L) gs gr most ja jb (L.map (f3 n))) := by
  have hla := (List.getElem?_eq_some_iff.1 ha).1
  have hlb := (List.getElem?_eq_some_iff.1 hb).1
  have hl0 := (List.getElem?_eq_some_iff.1 hd).1
  obtain ⟨kb, hkb⟩ : ∃ kb, w.heap.size = kb := ⟨_, rfl⟩
  obtain ⟨OP, hOP⟩ : ∃ OP : Array Value, #[.int .i64 7, .bool s, .int .i64 n, .int .u64 x, .string str, .int .i64 stop] = OP := ⟨_, rfl⟩
  have h1 := h.box 31 OP
  rw [hkb] at h1
  obtain ⟨Tx, hTx⟩ : ∃ Tx, Ts ++ [thBox w0.heap.size kb 31 OP] = Tx := ⟨_, rfl⟩
  rw [hTx] at h1
  have ta : Tx[ja]? = some (thSk 122 w0.heap.size gs most v (L)) := by rw [← hTx, List.getElem?_append_left hla]; exact ha
  have tb : Tx[jb]? = some (thNb 77 3 w0.heap.size gr v2 most (iV L)) := by rw [← hTx, List.getElem?_append_left hlb]; exact hb
  have t0 : Tx[0]? = some (thBox w0.heap.size gd 52 cs) := by rw [← hTx, List.getElem?_append_left hl0]; exact hd
  have tx : Tx[Ts.length]? = some (thBox w0.heap.size kb 31 OP) := by rw [← hTx, List.getElem?_append_right (Nat.le_refl _)]; simp
  obtain ⟨wa, hwa⟩ : ∃ wa, wa = w.alloc (.cells OP 31) := ⟨_, rfl⟩
  rw [← hwa] at h1
  have HOP : Hid (∀ Z, Bk Z kb 31 OP → Z.cell? ⟨kb, 0, none⟩ = some (.int .i64 7) ∧ Z.cell? ⟨kb, 2, none⟩ = some (.int .i64 n) ∧ Z.cell? ⟨kb, 5, none⟩ = some (.int .i64 stop)) := fun Z hz => by
    rw [← hOP] at hz
    exact ⟨hz.cell 0, hz.cell 2, hz.cell 5⟩
  have d0 : w.cell? ⟨gd, 2 + i, none⟩ = some (.pointer (some ⟨gs, 0, none⟩)) := by rw [(h.bk hd).cell]; exact hc0
  have d1 : w.cell? ⟨gd, 12 + i, none⟩ = some (.pointer (some ⟨gr, 0, none⟩)) := by rw [(h.bk hd).cell]; exact hc1
  have hgl : gd < w.heap.size := (h.bk hd).lt
  have d0' : wa.cell? ⟨gd, 2 + i, none⟩ = some (.pointer (some ⟨gs, 0, none⟩)) := by rw [(h1.bk t0).cell]; exact hc0
  have d1' : wa.cell? ⟨gd, 12 + i, none⟩ = some (.pointer (some ⟨gr, 0, none⟩)) := by rw [(h1.bk t0).cell]; exact hc1
  try simp only [Nat.zero_add] at d0'
  obtain ⟨e0, e2, e5⟩ := HOP.out wa (h1.bk tx)
  have i0 : (0 : Int) ≤ (i : Int) := by omega
  have i1 : (i : Int) < 2 := by omega
  have HWA := Lib.hid hwa
  have HOPE := Lib.hid hOP
  have HTX := Lib.hid hTx
  have H1 := Lib.hid h1
  have TA := Lib.hid ta
  have TB := Lib.hid tb
  have TX := Lib.hid tx
  have HLA : Hid (ja < Ts.length ∧ jb < Ts.length ∧ ja ≠ jb) := ⟨hla, hlb, hab⟩
  have HB0 := Lib.hid h1.fr.size
  have TBOX := Lib.hid (h1.box 94 #[.int .i64 n, .slice none 0 0, .slice none 0 0])
  obtain ⟨bt, hbt⟩ : ∃ bt, wa.heap.size = bt := ⟨_, rfl⟩
  obtain ⟨wt, hwt⟩ : ∃ wt, wt = wa.alloc (.cells #[.int .i64 n, .slice none 0 0, .slice none 0 0] 94) := ⟨_, rfl⟩
  have htl : Tx.length = Ts.length + 1 := by rw [← hTx]; simp
  have h3 : Sg w0 (Tx ++ [thTn w0.heap.size bt n (.slice none 0 0) []]) wt := by
    rw [hwt]
    refine h1.push ((Fr.refl _ _).alloc _) ⟨Bk.new_at _ _ _ _ hbt, Lst.nil _ _ _ _, by rw [← hbt]; exact h1.fr.size⟩ (fun x hx => ?_)
    have : x = bt := by simpa [thTn, skT, Value.ownBlock] using hx
    omega
  have hlax : ja < Tx.length := by omega
  have HMAP := Lib.hid (map_any (ja := ja) (jt := Tx.length) (bt := bt) (n := n) (vt := .slice none 0 0) h3 (by rw [List.getElem?_append_left hlax]; exact ta) (by rw [List.getElem?_append_right (Nat.le_refl _), Nat.sub_self]; rfl) (by omega) hL)
  obtain ⟨Lm, hLm⟩ : ∃ Lm, L.map (f3 n) = Lm := ⟨_, rfl⟩
  rw [hLm] at HMAP ⊢
  have HLM := Lib.hid hLm
  obtain ⟨m, hm⟩ : ∃ m, L.length = m := ⟨_, rfl⟩
  have HMM := Lib.hid hm
  -- behind Map
  have HAFT : Hid (∀ z, MapO w0 (Tx ++ [thTn w0.heap.size bt n (.slice none 0 0) []]) gs bt ja Tx.length most n L Lm z → ∃ (T : List (Th w0.heap.size)) (vq vt : Value), Sg w0 T z ∧ Chg (Tx ++ [thTn w0.heap.size bt n (.slice none 0 0) []]) T ja Tx.length ∧ T[ja]? = some (thSk 122 w0.heap.size gs most vq Lm) ∧ T[jb]? = some (thNb 77 3 w0.heap.size gr v2 most (iV L)) ∧ T[Ts.length]? = some (thBox w0.heap.size kb 31 OP) ∧ T[Tx.length]? = some (thTn w0.heap.size bt n vt L)) := fun z hz => by
    obtain ⟨T, vq, vt, z1, z2, z3, z4⟩ := hz
    refine ⟨T, vq, vt, z1, z2, z3, ?_, ?_, z4⟩
    · rw [z2.2 jb (by omega) (by omega), List.getElem?_append_left (by omega)]
      exact tb
    · rw [z2.2 Ts.length (by omega) (by omega), List.getElem?_append_left (by omega)]
      exact tx
  have hkb0 := hkb
  have HWT := Lib.hid hwt
  have HBT := Lib.hid hbt
  have HTL := Lib.hid htl
  clear h hd hc0 hc1 ha hb hla hlb hl0 hab h0a h0b h1 h3 ta tb t0 tx hOP hTx hwa hm hLm hwt hbt htl TBOX
  go_enter Tryz.func21, Tryz.ntmps21
  go_upto_region 1 with fail
  rw [HOPE.out, ← HWA.out]
  clear d0 d1
  go_upto_region 13 with fail
  rw [← HWT.out]
  try rw [HBT.out]
  clear e0 e2 e5 d0' d1'
  go_wp2_with fail
  refine (Calls.mono HMAP.out ?_)
  rintro en z ⟨rfl, ho⟩
  obtain ⟨T, vq, vt, z1, z2, z3, z4, z5, z6⟩ := HAFT.out z ho
  have hnb := z1.nb_at z4
  obtain ⟨A, cp, hv2, _, hcm⟩ := hnb.L.look
  rw [iV_length, HMM.out] at hv2
  have htn : Tn w0.heap.size z bt n vt L := z1.ok _ _ z6
  obtain ⟨At, ct, hvt, _, _⟩ := htn.L.look
  rw [HMM.out] at hvt
  have c1 : z.cell? ⟨bt, 1, none⟩ = some (.slice At m ct) := by rw [← hvt]; exact htn.B.cell 1
  have c0 : z.cell? ⟨gr, 0, none⟩ = some (.slice A m cp) := by rw [← hv2]; exact hnb.B.cell 0
  have HS1 : Hid (Calls Tryz.prog 37 #[.slice At m ct, .slice A m cp] z.drew fun e w' => e = .returned (.bool true) ∧ Fr [] z.drew w') := by
    have l1 := htn.L
    have l2 := hnb.L
    rw [HMM.out, hvt] at l1
    rw [iV_length, HMM.out, hv2] at l2
    exact same_yes At A L m ct cp z.drew HMM.out.symm ((l1.rdi HMM.out.symm).fr ((Fr.refl [] z).drew) (by simp)) ((l2.rdi HMM.out.symm).fr ((Fr.refl [] z).drew) (by simp))
  have HK : Hid (∀ Z, Fr [] z.drew Z → Z.cell? ⟨bt, 1, none⟩ = some (.slice At m ct) ∧ Z.cell? ⟨gr, 0, none⟩ = some (.slice A m cp)) := fun Z hf => by
    have z7 := (z1.nil ((Fr.refl [] z).drew)).nil hf
    have htn : Tn w0.heap.size Z bt n vt L := z7.ok _ _ z6
    exact ⟨by rw [← hvt]; exact htn.B.cell 1, by rw [← hv2]; exact (z7.nb_at z4).B.cell 0⟩
  have HZ : Hid (Sg w0 T z.drew ∧ Chg (Tx ++ [thTn w0.heap.size bt n (.slice none 0 0) []]) T ja Tx.length ∧ T[ja]? = some (thSk 122 w0.heap.size gs most vq Lm) ∧ T[jb]? = some (thNb 77 3 w0.heap.size gr v2 most (iV L)) ∧ T[Ts.length]? = some (thBox w0.heap.size kb 31 OP)) := ⟨z1.nil ((Fr.refl [] z).drew), z2, z3, z4, z5⟩
  have HV2 := Lib.hid hv2
  clear ho z1 z2 z3 z4 z5 z6 hnb hv2 htn hvt
  go_upto_region 14 with fail
  go_region_held3 (fun W => W.cell? ⟨bt, 1, none⟩ = some (.slice At m ct) ∧ W.cell? ⟨gr, 0, none⟩ = some (.slice A m cp)) ((first | exact HK.out _ (by assumption) | exact HK.out _ (Fr.refl _ _)))
    ((first | (go_at_call 37; refine (Calls.mono HS1.out ?_); rintro en y ⟨rfl, hfy⟩)))
  have HY : Hid (∃ T : List (Th w0.heap.size), Sg w0 T y ∧ Chg Tx T ja jb ∧ T[ja]? = some (thSk 122 w0.heap.size gs most vq Lm) ∧ T[jb]? = some (thNb 77 3 w0.heap.size gr (.slice A m cp) most (iV ((L.take 0).map (f3 n) ++ L.drop 0))) ∧ T[Ts.length]? = some (thBox w0.heap.size kb 31 OP)) := by
    obtain ⟨q1, q2, q3, q4, q5⟩ := HZ.out
    have hl1 := HLA.out
    have hl2 := HTL.out
    have ht1 : T.length = Tx.length + 1 := by rw [q2.1]; simp
    rw [HV2.out] at q4
    refine ⟨T.take Tx.length, (q1.nil hfy).take _, ⟨by rw [List.length_take]; omega, fun j h1 h2 => ?_⟩, ?_, ?_, ?_⟩
    · rw [List.getElem?_take]
      split
      · rw [q2.2 j h1 (by omega), List.getElem?_append_left (by assumption)]
      · rw [List.getElem?_eq_none (by omega)]
    · rw [List.getElem?_take, if_pos (by omega)]; exact q3
    · rw [List.getElem?_take, if_pos (by omega)]; simpa using q4
    · rw [List.getElem?_take, if_pos (by omega)]; exact q5
  clear hfy c0 c1 HMAP HAFT
  have hmb : m ≤ 100000 := by rw [← HMM.out]; exact hL
  go_wp2_with fail
  go_loopw [16] (fun j wr => ∃ k : Nat, k ≤ m ∧ j = .int .i64 k ∧ Hid (∃ T : List (Th w0.heap.size), Sg w0 T wr ∧ Chg Tx T ja jb ∧ T[ja]? = some (thSk 122 w0.heap.size gs most vq Lm) ∧ T[jb]? = some (thNb 77 3 w0.heap.size gr (.slice A m cp) most (iV ((L.take k).map (f3 n) ++ L.drop k))) ∧ T[Ts.length]? = some (thBox w0.heap.size kb 31 OP))) (fun j _ => m - (intOf j).toNat)
  case atStart => exact ⟨0, by omega, rfl, HY.out⟩
  case round =>
    obtain ⟨k, hk, rfl, hx⟩ := hrel
    obtain ⟨T', q1, q2, q3, q4, q5⟩ := hx.out
    clear hx
    have hnb := q1.nb_at q4
    have c0 : wr.cell? ⟨gr, 0, none⟩ = some (.slice A m cp) := hnb.B.cell 0
    by_cases hlk : k < m
    · obtain ⟨x, hxk⟩ : ∃ x, L[k]? = some x := ⟨_, List.getElem?_eq_getElem (by have := HMM.out; omega)⟩
      obtain ⟨st1, st2⟩ := map_step (f := f3 n) hxk
      have hlen : (iV ((L.take k).map (f3 n) ++ L.drop k)).length = m := by rw [iV_length]; simp; have := HMM.out; omega
      have hnL := hnb.L
      rw [hlen] at hnL
      obtain ⟨gl, off, cap, hq, _, hgl, _, _, _, hfz, hcl⟩ := hnL.form (by omega)
      injection hq with r1 _ r3
      subst r1 r3
      have cx := hcl k _ (iV_at st1)
      have fx := hfz (off + k)
      have cn := (HOP.out _ (q1.bk q5)).2.1
      have hp := hnL.put (j := k) (.int .i64 (f3 n x))
      have e1 : (iV ((L.take k).map (f3 n) ++ L.drop k)).set k (.int .i64 (f3 n x)) = iV ((L.take (k + 1)).map (f3 n) ++ L.drop (k + 1)) := by
        rw [← st2]
        unfold iV
        rw [List.map_set]
      have hlen2 : (iV ((L.take (k + 1)).map (f3 n) ++ L.drop (k + 1))).length = m := by rw [← e1, List.length_set]; exact hlen
      rw [e1] at hp
      have HX : Hid (∀ y, f3 n x = y → ∃ T : List (Th w0.heap.size), Sg w0 T (wr.setCell ⟨gl, off + k, none⟩ (.int .i64 y)) ∧ Chg Tx T ja jb ∧ T[ja]? = some (thSk 122 w0.heap.size gs most vq Lm) ∧ T[jb]? = some (thNb 77 3 w0.heap.size gr (.slice (some ⟨gl, off, none⟩) m cp) most (iV ((L.take (k + 1)).map (f3 n) ++ L.drop (k + 1)))) ∧ T[Ts.length]? = some (thBox w0.heap.size kb 31 OP)) := fun y hy => by
        subst hy
        have hla := HLA.out
        have htl := HTL.out
        refine ⟨_, q1.set (t' := thNb 77 3 w0.heap.size gr (.slice (some ⟨gl, off, none⟩) m cp) most (iV ((L.take (k + 1)).map (f3 n) ++ L.drop (k + 1)))) q4 ((Fr.refl _ _).setCell (.inl (by simp [thNb, skT, Value.ownBlock])) _) ⟨hnb.B.far (p := ⟨gl, off + k, none⟩) (fun e => (hnL.ne_bk hnb.B (by decide) gl (by simp [Value.ownBlock])) e.symm) _, by rw [hlen2]; exact hp, hnb.b⟩ (fun y hy => .inl hy), q2.set2 _, ?_, ?_, ?_⟩
        · rw [List.getElem?_set_ne (Ne.symm hla.2.2)]; exact q3
        · rw [List.getElem?_set_self (by rw [q2.1]; omega)]
        · rw [List.getElem?_set_ne (by omega)]; exact q5
      have i0 : (0 : Int) ≤ (k : Int) := by omega
      have i1 : (k : Int) < (m : Int) := by omega
      have i2 : decide ((k : Int) < (m : Int)) = true := decide_eq_true i1
      clear hxk st1 st2 hlen hnL hcl hfz hp e1 hlen2 hnb q1 q2 q3 q4 q5
      go_upto_region 18 with fail
      go_region
      all_goals
        go_wp2_with fail
        go_roundw
        case rel =>
          first
            | exact ⟨k + 1, by omega, by go_num, HX.out _ rfl⟩
            | exact ⟨k + 1, by omega, by go_num, HX.out _ (by unfold f3; simp only [wrapEq'])⟩
            | (obtain ⟨T, z1, z2, z3, z4, z5⟩ := HX.out _ rfl; exact ⟨k + 1, by omega, by go_num, T, z1.nil ((Fr.refl _ _).drew), z2, z3, z4, z5⟩)
            | (obtain ⟨T, z1, z2, z3, z4, z5⟩ := HX.out _ (by unfold f3; simp only [wrapEq']); exact ⟨k + 1, by omega, by go_num, T, z1.nil ((Fr.refl _ _).drew), z2, z3, z4, z5⟩)
        case measure => simp [intOf]; omega
    · obtain rfl : m = k := by omega
      have HX : Hid (DoN w0 Ts 122 (fun L => L) gs gr most ja jb Lm (.returned (.bool true)) wr) := by
        rw [List.take_of_length_le (by have := HMM.out; omega), List.drop_eq_nil_of_le (by have := HMM.out; omega), List.append_nil, HLM.out] at q4
        exact DoN.of (Us := [thBox w0.heap.size kb 31 OP]) q1 (by rw [HTX.out]; exact q2) HLA.out.1 HLA.out.2.1 q3 q4
      have i2 : decide ((m : Int) < (m : Int)) = false := decide_eq_false (by omega)
      clear hnb q1 q2 q3 q4 q5
      go_wp2_with fail
      go_ret
      exact HX.out
end Go.Proofs.YtdjaalkbpdmdgaaGreat
namespace Go.Proofs.YtdjaalkbpdmdgaaGreat
open Go.RowKit
set_option linter.unusedVariables false

def quA (most : Int) (L : List Int) (o : Ob) : List Int := if o.k = 5 then addQ most L o.n else if o.k = 6 then L.tail else if o.k = 7 then L.map (f3 o.n) else L
theorem quA_len (most : Int) (L : List Int) (o : Ob) : (quA most L o).length ≤ L.length + 1 := by
  unfold quA addQ
  split
  · split <;> simp
  · split
    · simp; omega
    · split <;> simp
/-- The queues of the desk. -/
structure DQ (w0 : World) (gd : Nat) (pt : Nat → Nat → Nat) (mo : Nat → Int) (LS : Nat → List Int) (Ts : List (Th w0.heap.size)) (w : World) : Prop where
  sg : Sg w0 Ts w
  len : Ts.length = 22
  d : ∃ f : Nat → Value, Ts[0]? = some (thBox w0.heap.size gd 52 (deskA f)) ∧ ∀ i, i < 2 → ∀ j, j < 10 → f (2 * j + i) = ptV (pt i j)
  st : ∀ i, i < 2 → (∃ v, Ts[2 + 10 * i + 1]? = some (thSk 122 w0.heap.size (pt i 1) (mo i) v (LS i))) ∧ ∃ v, Ts[2 + 10 * i + 6]? = some (thNb 77 3 w0.heap.size (pt i 6) v (mo i) (iV (LS i)))

theorem queueOp_any {w0 w : World} {Ts : List (Th w0.heap.size)} {gd i gs gr ja jb : Nat} {cs : Array Value} {most : Int} {v v2 : Value} {L : List Int} (hi : i < 2) (h : Sg w0 Ts w) (hd : Ts[0]? = some (thBox w0.heap.size gd 52 cs)) (hc0 : cs[2 + i]? = some (.pointer (some ⟨gs, 0, none⟩))) (hc1 : cs[12 + i]? = some (.pointer (some ⟨gr, 0, none⟩))) (ha : Ts[ja]? = some (thSk 122 w0.heap.size gs most v L)) (hb : Ts[jb]? = some (thNb 77 3 w0.heap.size gr v2 most (iV L))) (hab : ja ≠ jb) (h0a : ja ≠ 0) (h0b : jb ≠ 0) (hL : L.length ≤ 100000) (o : Ob) (hk : 5 ≤ o.k ∧ o.k ≤ 9) :
    Calls Tryz.prog 21 #[.pointer (some ⟨gd, 0, none⟩), .agg o.V, .int .i64 i] w (DoN w0 Ts 122 (fun L => L) gs gr most ja jb (quA most L o)) := by
  obtain ⟨k, s, n, x, str, stop⟩ := o
  have hk : 5 ≤ k ∧ k ≤ 9 := hk
  have : k = 5 ∨ k = 6 ∨ k = 7 ∨ k = 8 ∨ k = 9 := by omega
  rcases this with rfl | rfl | rfl | rfl | rfl
  · exact d_queue_add hi h hd hc0 hc1 ha hb hab h0a h0b hL s n x str stop
  · exact d_queue_take hi h hd hc0 hc1 ha hb hab h0a h0b hL s n x str stop
  · exact d_queue_map hi h hd hc0 hc1 ha hb hab h0a h0b hL s n x str stop
  · exact d_queue_len hi h hd hc0 hc1 ha hb hab h0a h0b hL s n x str stop
  · exact d_queue_all hi h hd hc0 hc1 ha hb hab h0a h0b hL s n x str stop

theorem DQ.step {w0 w w' : World} {gd : Nat} {pt : Nat → Nat → Nat} {mo : Nat → Int} {LS : Nat → List Int} {Ts Us : List (Th w0.heap.size)} {i : Nat} {L' : List Int} {e : Ending} (hi : i < 2) (h : DQ w0 gd pt mo LS Ts w) (hd : DoN w0 (Ts ++ Us) 122 (fun L => L) (pt i 1) (pt i 6) (mo i) (2 + 10 * i + 1) (2 + 10 * i + 6) L' e w') :
    e = .returned (.bool true) ∧ ∃ Ts', DQ w0 gd pt mo (updN LS i L') Ts' w' := by
  obtain ⟨he, T, v, v2, h1, h2, h3, h4⟩ := hd
  have hl := h.len
  have hlt : T.length = Ts.length + Us.length := by rw [h2.1, List.length_append]
  have old : ∀ j, j < Ts.length → j ≠ 2 + 10 * i + 1 → j ≠ 2 + 10 * i + 6 → (T.take Ts.length)[j]? = Ts[j]? := fun j hj h5 h6 => by
    rw [List.getElem?_take, if_pos hj, h2.2 j h5 h6, List.getElem?_append_left hj]
  refine ⟨he, T.take Ts.length, h1.take _, by rw [List.length_take]; omega, ?_, fun i' hi' => ?_⟩
  · obtain ⟨f, f1, f2⟩ := h.d
    exact ⟨f, by rw [old 0 (by omega) (by omega) (by omega)]; exact f1, f2⟩
  · by_cases e : i' = i
    · subst e
      unfold updN
      rw [if_pos rfl]
      exact ⟨⟨v, by rw [List.getElem?_take, if_pos (by omega)]; exact h3⟩, v2, by rw [List.getElem?_take, if_pos (by omega)]; exact h4⟩
    · unfold updN
      rw [if_neg e]
      obtain ⟨⟨u, k1⟩, u2, k2⟩ := h.st i' hi'
      exact ⟨⟨u, by rw [old _ (by omega) (by omega) (by omega)]; exact k1⟩, u2, by rw [old _ (by omega) (by omega) (by omega)]; exact k2⟩

set_option maxRecDepth 100000 in
set_option maxHeartbeats 1600000 in
theorem plays_queue {w0 w : World} {gd : Nat} {pt : Nat → Nat → Nat} {mo : Nat → Int} {LS : Nat → List Int} {Ts : List (Th w0.heap.size)} (h : DQ w0 gd pt mo LS Ts w) (hL : ∀ i, i < 2 → (LS i).length ≤ 100000) (o : Ob) (hk : 5 ≤ o.k ∧ o.k ≤ 9) :
    Calls Tryz.prog 11 #[.pointer (some ⟨gd, 0, none⟩), .agg o.V] w fun e w' => e = .returned (.bool true) ∧ ∃ (i : Nat) (Ts' : List (Th w0.heap.size)), i < 2 ∧ DQ w0 gd pt mo (updN LS i (quA (mo i) (LS i) o)) Ts' w' := by
  obtain ⟨i, hi, his⟩ : ∃ i : Nat, i < 2 ∧ (if o.s then i = 1 else i = 0) := by
    cases o.s
    · exact ⟨0, by omega, rfl⟩
    · exact ⟨1, by omega, rfl⟩
  obtain ⟨f, f1, f2⟩ := h.d
  obtain ⟨⟨v, s1⟩, v2, s2⟩ := h.st i hi
  have hl := h.len
  have hbx := h.sg.box 31 o.V
  have HC := Lib.hid (queueOp_any (gs := pt i 1) (gr := pt i 6) (ja := 2 + 10 * i + 1) (jb := 2 + 10 * i + 6) hi hbx (by rw [List.getElem?_append_left (by omega)]; exact f1) (by rw [deskA_at f (by omega)]; have := f2 i hi 1 (by omega); rw [show 2 * 1 + i = 2 + i by omega] at this; rw [this]; rfl) (by rw [deskA_at f (by omega)]; have := f2 i hi 6 (by omega); rw [show 2 * 6 + i = 12 + i by omega] at this; rw [this]; rfl)
    (by rw [List.getElem?_append_left (by omega)]; exact s1) (by rw [List.getElem?_append_left (by omega)]; exact s2) (by omega) (by omega) (by omega) (hL i hi) o hk)
  have HSTEP : Hid (∀ e w', DoN w0 (Ts ++ [thBox w0.heap.size w.heap.size 31 o.V]) 122 (fun L => L) (pt i 1) (pt i 6) (mo i) (2 + 10 * i + 1) (2 + 10 * i + 6) (quA (mo i) (LS i) o) e w' → e = .returned (.bool true) ∧ ∃ (i : Nat) (Ts' : List (Th w0.heap.size)), i < 2 ∧ DQ w0 gd pt mo (updN LS i (quA (mo i) (LS i) o)) Ts' w') := fun e w' hd => by
    obtain ⟨k1, T', k2⟩ := h.step hi hd
    exact ⟨k1, i, T', hi, k2⟩
  obtain ⟨k, s, n, x, str, stop⟩ := o
  unfold Ob.V at HC HSTEP ⊢
  have d1 : decide (k < 1) = false := decide_eq_false (by have : 5 ≤ k := hk.1; omega)
  have d2 : decide (26 < k) = false := decide_eq_false (by have : k ≤ 9 := hk.2; omega)
  have d3 : decide (k ≤ 4) = false := decide_eq_false (by have : 5 ≤ k := hk.1; omega)
  have d4 : decide (k ≤ 9) = true := decide_eq_true hk.2
  clear h f1 f2 s1 s2 hl hbx hL hk
  cases s with
  | false =>
    have his : i = 0 := by simpa using his
    subst his
    go_enter Tryz.func11, Tryz.ntmps11
    go_wp2_with fail
    refine (Calls.mono HC.out ?_)
    intro e w' hd
    obtain ⟨rfl, hx⟩ := HSTEP.out e w' hd
    have HX := Lib.hid hx
    clear hd hx
    go_wp2_with fail
    go_ret
    exact ⟨rfl, HX.out⟩
  | true =>
    have his : i = 1 := by simpa using his
    subst his
    go_enter Tryz.func11, Tryz.ntmps11
    go_wp2_with fail
    refine (Calls.mono HC.out ?_)
    intro e w' hd
    obtain ⟨rfl, hx⟩ := HSTEP.out e w' hd
    have HX := Lib.hid hx
    clear hd hx
    go_wp2_with fail
    go_ret
    exact ⟨rfl, HX.out⟩
/-- The queues, while a script is played. -/
theorem run_queue {w0 w : World} {gd gm : Nat} {orig : Nat → Int} (h : BI w0 gd gm orig 2 w) : ∃ Inv : Nat → World → Prop, Inv 0 w ∧ Run w0 gd 5 9 Inv := by
  obtain ⟨pt, Ts, f, m, s1, s2, s3, s4, s5, s6⟩ := h
  refine ⟨fun k z => ∃ LS Ts', (∀ i, i < 2 → (LS i).length ≤ k) ∧ DQ w0 gd pt (fun i => moOf (orig i)) LS Ts' z, ⟨fun _ => [], Ts, fun i _ => by simp, s1, s2, ⟨f, s3, fun i hi j hj => (s5 i hi).2 j hj⟩, fun i hi => ?_⟩, ⟨?_, ?_, ?_⟩⟩
  · have h0 := (s5 i hi).1 1 _ rfl
    have h5 := (s5 i hi).1 6 _ rfl
    exact ⟨⟨nilS, h0⟩, nilS, h5⟩
  · rintro k z ⟨LS, T, _, hd⟩
    exact hd.sg.fr
  · rintro k z ⟨LS, T, hl, hd⟩
    exact ⟨LS, T, fun i hi => by have := hl i hi; omega, hd⟩
  · rintro k z o hk h1 h2 ⟨LS, T, hl, hd⟩
    refine (plays_queue hd (fun i hi => by have := hl i hi; omega) o ⟨h1, h2⟩).mono ?_
    rintro e z' ⟨he, i, T', hi, hd'⟩
    refine ⟨he, _, T', fun j hj => ?_, hd'⟩
    unfold updN
    split
    · have := quA_len (moOf (orig i)) (LS i) o
      have := hl i hi
      omega
    · have := hl j hj
      omega
theorem queues_st (one two : Int) (A : Option Addr) (n c : Nat) (l : List Ob) (w : World) (hn : n = l.length) (hnn : n ≤ 9223372036854775807) (hr : RdB w A l) :
    Calls Tryz.prog 4 #[.int .i64 one, .int .i64 two, .slice A n c] w fun e w' => e = .returned (.bool true) ∧ Fr [] w w' := by
  have H := Lib.hid (run_any w one two 5 9 (fun i => if i = 0 then one else two) A n c l hn hnn hr (begin_any w one two _ rfl rfl) (fun gd gm w' h => run_queue h))
  clear hn hr
  go_enter Tryz.func4, Tryz.ntmps4
  go_wp2_with fail
  refine (Calls.mono H.out ?_)
  rintro e w' ⟨rfl, hf⟩
  have HF := Lib.hid hf
  clear hf
  go_wp2_with fail
  go_ret
  exact ⟨rfl, HF.out⟩
end Go.Proofs.YtdjaalkbpdmdgaaGreat
