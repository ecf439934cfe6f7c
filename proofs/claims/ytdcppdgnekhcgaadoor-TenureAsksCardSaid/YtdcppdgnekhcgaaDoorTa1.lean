/-
  Tenure: the calls of the program's and the document's, without those that this seat lacks.
-/
import Derived.Test.YtdcppdgnekhcgaaDoorTen2
import Derived.Test.YtdcppdgnekhcgaaDoorSame
import Derived.Deep.AppendLies
import Derived.Deep.MidRow
namespace Go.Proofs.YtdcppdgnekhcgaaDoor
open Go.RowKit Ten

set_option maxRecDepth 100000 in
theorem rturn_bad (f : Nat → Int) (g : Nat) (w : World) (hf : ¬ okW f) :
    Calls Tryd.prog 15 #[.pointer (some ⟨g, 0, none⟩), .agg (arr16 f)] w (TurnBad w) := by
  have HF := Lib.hid hf
  clear hf
  go_enter Tryd.func15, Tryd.ntmps15
  go_wp2
  have hcells : Hid (Bk (w.alloc (.cells (arr16 f) 53)) w.heap.size 53 (arr16 f) ∧ Fr [] w (w.alloc (.cells (arr16 f) 53))) :=
    ⟨Bk.new w _ _, (Fr.refl _ _).alloc _⟩
  generalize w.alloc (.cells (arr16 f) 53) = w1 at *
  generalize ha : w.heap.size = a at *
  have HA := Lib.hid ha
  clear ha
  go_loop [6] (fun i => ∃ k : Nat, k ≤ 16 ∧ i = .int .i64 k ∧ Hid (∀ j, j < k → 0 ≤ f j ∧ f j ≤ 65536)) (fun i => 16 - (intOf i).toNat)
  case atStart => exact ⟨0, by omega, rfl, fun j hj => absurd hj (by omega)⟩
  case round =>
    obtain ⟨k, hk, rfl, hgood⟩ := hrel
    by_cases hlt : k < 16
    · have hck : w1.cell? ⟨a, k, none⟩ = some (.int .i64 (f k)) := (hcells.out.1.cell _).trans (arr16_get f hlt)
      go_wp2
      all_goals try (go_ret2; exact ⟨rfl, hcells.out.2⟩)
      · go_round
        case rel => exact ⟨k + 1, by omega, by go_num, fun j hj => by
          rcases Nat.lt_or_ge j k with h | h
          · exact hgood j h
          · obtain rfl : j = k := by omega
            omega⟩
        case measure => simp [intOf]; omega
    · exact absurd (fun j hj => hgood.out j (by omega)) HF.out

def RTurnOk (g b : Nat) (wanted most : Int) (l : List Int) (x : Int) (w : World) (e : Ending) (w' : World) : Prop :=
  ∃ b', e = .returned (.tuple #[.int .i64 x, .int .i64 0]) ∧ RIs w' g b' wanted most (l ++ [x]) ∧ (b' = b ∨ w.heap.size ≤ b') ∧ Fr [g, b] w w'

set_option maxRecDepth 100000 in
theorem rturn_end {g b b' cap' : Nat} {wanted most : Int} {l : List Int} {x x' : Int} {w w2 : World} {v : Value} (hx : x' = x) (hb : Bk w2 g 65 (rcells wanted most v))
    (ho : w2.ownsRow 0 3 1 (.slice (some ⟨b', 0, none⟩) (l.length + 1) cap') (l.length + 1) (ints l ++ [.int .i64 x'])) (hne : g ≠ b') (hb' : b' = b ∨ w.heap.size ≤ b') (hf : Fr [g, b] w w2) :
    RTurnOk g b wanted most l x w (.returned (.tuple #[.int .i64 x', .int .i64 0])) (w2.setCell ⟨g, 2, none⟩ (.slice (some ⟨b', 0, none⟩) (l.length + 1) cap')) := by
  subst hx
  refine ⟨b', rfl, ⟨cap', ?_, ?_⟩, hb', hf.setCell (by simp) _⟩
  · have := hb.put 2 (.slice (some ⟨b', 0, none⟩) (l.length + 1) cap')
    simpa [rcells] using this
  · have h2 := own_fr ho ((Fr.refl [g] w2).setCell (p := ⟨g, 2, none⟩) (by simp) (.slice (some ⟨b', 0, none⟩) (l.length + 1) cap')) (fun k hk => by
      have : k = b' := by simpa [Value.ownBlock] using hk.symm
      subst this
      simpa using Ne.symm hne)
    simpa [ints] using h2

set_option maxRecDepth 100000 in
theorem int_info : (Tryd.prog.info? 3).map (fun i => (i.zero, i.size, i.bytes)) = some (some (.int .i64 0), 1, 8) := by kernel_rfl

set_option maxRecDepth 100000 in
theorem rturn_ok (f : Nat → Int) (g b : Nat) (wanted : Int) (most : Nat) (l : List Int) (w : World) (hr : RIs w g b wanted most l) (hl : l.length ≤ 1000) (hf : okW f)
    (hw0 : 0 ≤ wanted) (hw1 : wanted ≤ 65536) (hm0 : 1 ≤ most) (hm1 : most ≤ 15) :
    Calls Tryd.prog 15 #[.pointer (some ⟨g, 0, none⟩), .agg (arr16 f)] w (RTurnOk g b wanted most l (next f wanted most) w) := by
  have HF := Lib.hid hf
  have HR := Lib.hid hr
  obtain ⟨hglt, hblt⟩ := hr.lt
  clear hf hr
  go_enter Tryd.func15, Tryd.ntmps15
  go_wp2
  have hcells : Hid (Bk (w.alloc (.cells (arr16 f) 53)) w.heap.size 53 (arr16 f) ∧ RIs (w.alloc (.cells (arr16 f) 53)) g b wanted most l ∧ Fr [] w (w.alloc (.cells (arr16 f) 53))) :=
    ⟨Bk.new w _ _, HR.out.fr ((Fr.refl [] _).alloc _) (by simp) (by simp), (Fr.refl _ _).alloc _⟩
  generalize w.alloc (.cells (arr16 f) 53) = w1 at *
  generalize ha : w.heap.size = a at *
  have HA := Lib.hid ha
  clear ha
  go_loop [6] (fun i => ∃ k : Nat, k ≤ 16 ∧ i = .int .i64 k) (fun i => 16 - (intOf i).toNat)
  case atStart => exact ⟨0, by omega, rfl⟩
  case round =>
    obtain ⟨k, hk, rfl⟩ := hrel
    by_cases hlt : k < 16
    · have hck : w1.cell? ⟨a, k, none⟩ = some (.int .i64 (f k)) := (hcells.out.1.cell _).trans (arr16_get f hlt)
      obtain ⟨hf0, hf1⟩ := HF.out k hlt
      go_wp2
      go_round
      case rel => exact ⟨k + 1, by omega, by go_num⟩
      case measure => simp [intOf]; omega
    · obtain ⟨cap, hb, ho⟩ := hcells.out.2.1
      have hc0 : w1.cell? ⟨g, 0, none⟩ = some (.int .i64 wanted) := hb.cell 0
      have hc1 : w1.cell? ⟨g, 1, none⟩ = some (.int .i64 most) := hb.cell 1
      have hc2 : w1.cell? ⟨g, 2, none⟩ = some (.slice (some ⟨b, 0, none⟩) l.length cap) := hb.cell 2
      have HB := Lib.hid hb
      have HO := Lib.hid ho
      clear hb ho
      go_wp2
      go_loop [7, 8, 9] (fun n s i => ∃ k : Nat, k + 1 ≤ most ∧ i = .int .i64 ((k : Int) + 1) ∧ s = .int .i64 (wanted - sumTo f k) ∧ n = .int .i64 (within f wanted k)) (fun _ _ i => 16 - (intOf i).toNat)
      case atStart => exact ⟨0, by omega, rfl, by simp [sumTo], rfl⟩
      case round =>
        obtain ⟨k2, hk2, rfl, rfl, rfl⟩ := hrel
        have hsb := sumTo_bound HF.out k2 (by omega)
        have hwb := within_bound f wanted k2
        by_cases hlt2 : k2 + 1 < most
        · have hck : w1.cell? ⟨a, k2 + 1, none⟩ = some (.int .i64 (f (k2 + 1))) := (hcells.out.1.cell _).trans (arr16_get f (by omega))
          have hfk := HF.out (k2 + 1) (by omega)
          go_wp2
          all_goals
            go_round
            case rel => exact ⟨k2 + 1, by omega, by go_num, by simp only [sumTo]; go_num, by
              have e : sumTo f (k2 + 1) = sumTo f k2 + f (k2 + 1) := rfl
              rw [within]
              first
                | (rw [if_pos (by omega)])
                | (rw [if_neg (by omega)]; simp)⟩
            case measure => simp [intOf]; omega
        · have hnx : next f wanted most = within f wanted k2 + 1 := by
            unfold next
            rw [show most - 1 = k2 from by omega]
          have HN := Lib.hid hnx
          clear hnx
          obtain ⟨i0, hi, hz0, hz1, hz2⟩ := info_parts int_info
          have hsz : a < w1.heap.size := hcells.out.1.lt
          go_wp2_with (at_builtin; refine wpList_append_lies _ rfl (.tmp 49) (.tmp 52) _ rfl 0 3 i0 (.int .i64 0) 1 8 Tryd.underlying29 hi hz0 hz1 hz2 rfl (by decide) _ l.length (ints l) rfl (HO.out.alloc _) ⟨w1.heap.size, 0, none⟩ 1 1 [.int .i64 (within f wanted k2 + 1)] rfl rfl ?c1 ?c2 (by decide) ?c3 ?c4 (Nat.zero_le _) _ rfl ?c5)
          case c2 => simp [Value.oneCell']
          case c3 => unfold maxLen; omega
          case c4 => omega
          case c5 =>
            intro b' cap' w2 hown hgrow hat hlt'
            have hne : g ≠ b' := by
              rintro rfl
              rcases hat with h | h
              · have : b = g := by simpa [Value.ownBlock] using h
                exact hcells.out.2.1.ne this.symm
              · omega
            have hg2 : Bk w2 g 65 (rcells wanted most (.slice (some ⟨b, 0, none⟩) l.length cap)) := (HB.out.alloc _).fr (Fr.of_grown hgrow) (by
              simpa [Value.ownBlock] using hcells.out.2.1.ne)
            have hfr : Fr [g, b] w w2 := ((hcells.out.2.2.mono (by simp)).alloc _).grown hgrow (fun k hk => by
              have : k = b := by simpa [Value.ownBlock] using hk.symm
              subst this
              simp)
            have hb' : b' = b ∨ w.heap.size ≤ b' := by
              rcases hat with h | h
              · exact .inl (by simpa [Value.ownBlock] using h.symm)
              · exact .inr (by have := HA.out; omega)
            have hd2 : w2.cell? ⟨g, 2, none⟩ = some (.slice (some ⟨b, 0, none⟩) l.length cap) := hg2.cell 2
            have hfz := hg2.free 2
            have HG := Lib.hid hg2
            have HO2 := Lib.hid hown
            have HGr := Lib.hid hgrow
            have HF2 := Lib.hid hfr
            have Hhat := Lib.hid hat
            have HB' := Lib.hid hb'
            clear hg2 hown hgrow hfr hat hb'
            go_wp2
            go_ret2
            exact rturn_end HN.out.symm HG.out HO2.out hne HB'.out HF2.out

def BeginNo (w : World) (e : Ending) (w' : World) : Prop := e = .returned (.tuple #[.pointer none, .pointer none, .bool true]) ∧ w = w'
def BeginOk (wanted most : Int) (w : World) (e : Ending) (w' : World) : Prop :=
  ∃ g h b, e = .returned (.tuple #[.pointer (some ⟨g, 0, none⟩), .pointer (some ⟨h, 0, none⟩), .bool true]) ∧ w.heap.size ≤ g ∧ w.heap.size ≤ h ∧ w.heap.size ≤ b ∧
    Bk w' g 63 (tcells wanted most (past0 most) 1) ∧ RIs w' h b wanted most [most] ∧ Fr [] w w'

set_option maxRecDepth 100000 in
theorem begin_no (s t m : Int) (w : World) (h : s < 1 ∨ 65536 < s ∨ t < 1 ∨ 100 < t ∨ m < 1 ∨ 15 < m) :
    Calls Tryd.prog 4 #[.int .i64 s, .int .i64 t, .int .i64 m] w (BeginNo w) := by
  have H := Lib.hid h
  clear h
  go_enter Tryd.func4, Tryd.ntmps4
  go_wp2_with fail
  refine (new_no _ _ _ _ H.out).mono ?_
  rintro e w1 ⟨rfl, rfl⟩
  go_wp2_with fail
  refine (rnew_no _ _ _ _ H.out).mono ?_
  rintro e w1 ⟨rfl, rfl⟩
  go_wp2_with fail
  refine (num_any _ _).mono ?_
  rintro e w1 ⟨rfl, rfl⟩
  go_wp2_with fail
  go_ret3
  exact ⟨rfl, rfl⟩

set_option maxRecDepth 100000 in
theorem begin_ok (s t m : Int) (w : World) (h1 : 1 ≤ s) (h2 : s ≤ 65536) (h3 : 1 ≤ t) (h4 : t ≤ 100) (h5 : 1 ≤ m) (h6 : m ≤ 15) :
    Calls Tryd.prog 4 #[.int .i64 s, .int .i64 t, .int .i64 m] w (BeginOk (s * t / 100) m w) := by
  go_enter Tryd.func4, Tryd.ntmps4
  go_wp2_with fail
  refine (new_ok _ _ _ _ h1 h2 h3 h4 h5 h6).mono ?_
  rintro e w1 ⟨g, rfl, hg, hb, hf⟩
  have HB := Lib.hid hb
  have HF := Lib.hid hf
  clear hb hf
  go_wp2_with fail
  refine (rnew_ok _ _ _ _ h1 h2 h3 h4 h5 h6).mono ?_
  rintro e w2 ⟨h, b, rfl, hh, hbb, hr, hf2⟩
  have hle1 := HF.out.size
  have HB2 := Lib.hid (HB.out.fr hf2 (by simp))
  have HR := Lib.hid hr
  have HF2 := Lib.hid (HF.out.trans hf2 (by simp))
  clear hr hf2
  go_wp2_with fail
  refine (num_any _ _).mono ?_
  rintro e w3 ⟨rfl, rfl⟩
  go_wp2_with fail
  refine (threshold_any _ _ _ _ _ _ HB2.out).mono ?_
  rintro e w3 ⟨rfl, rfl⟩
  go_wp2_with fail
  refine (rthreshold_any _ _ _ _ [] m _ HR.out).mono ?_
  rintro e w3 ⟨rfl, hf3⟩
  have HB3 := Lib.hid (HB2.out.fr hf3 (by simp))
  have HR3 := Lib.hid (HR.out.fr hf3 (by simp) (by simp))
  have HF3 := Lib.hid (HF2.out.trans hf3 (by simp))
  clear hf3
  go_wp2_with fail
  go_ret3
  refine ⟨g, h, b, ?_, hg, by omega, by omega, HB3.out, HR3.out, HF3.out⟩
  simp [past0]

/-- A slice of turns: for each a row of sixteen words. -/
def Turns (w : World) (A : Option Addr) (n : Nat) (F : Nat → Nat → Int) : Prop :=
  n ≤ 9223372036854775807 ∧ (0 < n → ∃ b o, A = some ⟨b, o, none⟩ ∧ b < w.heap.size ∧ ∀ i, i < n → w.rangeAt b (o + i * 16) (arr16 (F i)).toList)

theorem Turns.fr {w w' : World} {A : Option Addr} {n : Nat} {F : Nat → Nat → Int} (h : Turns w A n F) (hf : Fr [] w w') : Turns w' A n F :=
  ⟨h.1, fun hn => by
    obtain ⟨b, o, rfl, hb, hr⟩ := h.2 hn
    exact ⟨b, o, rfl, Nat.lt_of_lt_of_le hb hf.size, fun i hi j v hv => (World.cell?_of_block (hf.block b hb (by simp))).trans (hr i hi j v hv)⟩⟩

/-- The program's and the document's Tenure beside one another, behind k turns. -/
structure Pair (w : World) (g h : Nat) (wanted : Int) (most : Nat) (p : Nat → Int) (many : Int) (b : Nat) (l : List Int) : Prop where
  T : Bk w g 63 (tcells wanted most p many)
  R : RIs w h b wanted most l
  w0 : 0 ≤ wanted
  w1 : wanted ≤ 65536
  m0 : 1 ≤ most
  m1 : most ≤ 15
  n0 : 1 ≤ many
  n1 : many ≤ 16

theorem Pair.ne {w : World} {g h : Nat} {wanted : Int} {most : Nat} {p : Nat → Int} {many : Int} {b : Nat} {l : List Int} (P : Pair w g h wanted most p many b l) : g ≠ h ∧ g ≠ b := by
  obtain ⟨cap, hb, ho⟩ := P.R
  obtain ⟨cur, hc, _⟩ := own_lt ho
  have hg := P.T
  unfold Bk at hg hb
  constructor
  · rintro rfl
    rw [hg] at hb
    injection hb with hb
    injection hb with _ ht
    exact absurd ht (by decide)
  · rintro rfl
    rw [hg] at hc
    injection hc with hc
    injection hc with _ ht
    exact absurd ht (by decide)
theorem Pair.fr {w w' : World} {g h : Nat} {wanted : Int} {most : Nat} {p : Nat → Int} {many : Int} {b : Nat} {l : List Int} {S : List Nat} (P : Pair w g h wanted most p many b l) (hf : Fr S w w')
    (h1 : g ∉ S) (h2 : h ∉ S) (h3 : b ∉ S) : Pair w' g h wanted most p many b l := ⟨P.T.fr hf h1, P.R.fr hf h2 h3, P.w0, P.w1, P.m0, P.m1, P.n0, P.n1⟩


/-- The last of the sixteen, as many as there are. -/
def lastOf (p : Nat → Int) (many : Nat) : List Int := (List.range many).map fun j => p (16 - many + j)

set_option maxRecDepth 100000 in
theorem slice16 (a many : Nat) (h1 : 1 ≤ many) (h2 : many ≤ 16) (W : World) :
    (Instr.sliceAt 53 (.pointer (some ⟨a, 0, none⟩)) (some (.int .i64 (16 - (many : Int)))) none none).run Tryd.prog W = .ok (.slice (some ⟨a, 16 - many, none⟩) many many) W := by
  have hk : many = 1 ∨ many = 2 ∨ many = 3 ∨ many = 4 ∨ many = 5 ∨ many = 6 ∨ many = 7 ∨ many = 8 ∨ many = 9 ∨ many = 10 ∨ many = 11 ∨ many = 12 ∨ many = 13 ∨ many = 14 ∨ many = 15 ∨ many = 16 := by omega
  clear h1 h2
  rcases hk with h | h | h | h | h | h | h | h | h | h | h | h | h | h | h | h <;> subst h <;> refine Eq.trans ?_ rfl <;> kernel_rfl

set_option maxRecDepth 100000 in
theorem lastOf_length (p : Nat → Int) (many : Nat) : (lastOf p many).length = many := by simp [lastOf]

def IntsBack (l : List Int) (w : World) (e : Ending) (w' : World) : Prop :=
  ∃ A c, e = .returned (.slice A l.length c) ∧ RdI w' A l ∧ (∀ a, A = some a → w.heap.size ≤ a.block) ∧ Fr [] w w'

set_option maxRecDepth 100000 in
theorem history_any (g : Nat) (wanted most : Int) (p : Nat → Int) (many : Nat) (w : World) (h : Bk w g 63 (tcells wanted most p many)) (h1 : 1 ≤ many) (h2 : many ≤ 16) :
    Calls Tryd.prog 9 #[.pointer (some ⟨g, 0, none⟩)] w (IntsBack (lastOf p many) w) := by
  have HB := Lib.hid h
  have hm : w.cell? ⟨g, 18, none⟩ = some (.int .i64 (many : Int)) := h.cell 18
  have hglt := h.lt
  have HRA : Hid (w.rangeAt g 2 (arr16 p).toList) := fun j v hj => by
    have hlt : j < 16 := (List.getElem?_eq_some_iff.1 hj).1
    have hk : j = 0 ∨ j = 1 ∨ j = 2 ∨ j = 3 ∨ j = 4 ∨ j = 5 ∨ j = 6 ∨ j = 7 ∨ j = 8 ∨ j = 9 ∨ j = 10 ∨ j = 11 ∨ j = 12 ∨ j = 13 ∨ j = 14 ∨ j = 15 := by omega
    rw [← hj]
    rcases hk with h | h | h | h | h | h | h | h | h | h | h | h | h | h | h | h <;> subst h <;> exact HB.out.cell _
  clear h
  obtain ⟨w1, hw1⟩ : ∃ w1, w1 = ((w.alloc (.cells (arr16 fun _ => 0) 53)).setRow w.heap.size (arr16 p)) := ⟨_, rfl⟩
  have f1 : Hid (Bk w1 w.heap.size 53 (arr16 p)) := by
    subst hw1
    exact setRow_heap _ _ _ _ _ _ (heap_alloc_new w _)
  have f2 : Hid (Fr [] w w1) := by
    subst hw1
    exact ⟨rfl, rfl, rfl, by simp, fun k hk _ => (setRow_other _ _ _ _ (by omega)).trans (Below.heap_alloc w _ k hk)⟩
  have H1 := Lib.hid hw1
  clear hw1
  have hsz : w.heap.size < w1.heap.size := f1.out.lt
  have hm' : w1.cell? ⟨g, 18, none⟩ = some (.int .i64 (many : Int)) := (World.cell?_of_block (f2.out.block g hglt (by simp))).trans hm
  obtain ⟨i0, hi, hz0, hz1, hz2⟩ := info_parts int_info
  have hsl := slice16 w.heap.size many h1 h2
  go_enter Tryd.func9, Tryd.ntmps9
  go_wp2_with (first | (refine wpList_load_mid rfl 53 _ rfl g 2 rfl (arr16 p).toList _ HRA.out Tryd.underlying53 rfl (by kernel_rfl) ?_) | (refine wpList_store_row rfl 53 _ _ rfl w.heap.size (arr16 p) rfl rfl 53 _ (heap_alloc_new w _) (by kernel_rfl) rfl (by simp [arr16, Value.oneCell']) ?_; change wpList _ _ _ _ _ ((w.alloc (.cells (arr16 fun _ => 0) 53)).setRow w.heap.size (arr16 p)); rw [← H1.out]) | (at_builtin; refine wpList_append_lies _ rfl (.const (.slice none 0 0)) (.tmp 13) _ rfl w.heap.size 3 i0 (.int .i64 0) 1 8 Tryd.underlying29 hi hz0 hz1 hz2 rfl (by decide) _ 0 [] rfl (World.ownsRow_nil _ _ _ _) ⟨w.heap.size, 16 - many, none⟩ many many (ints (lastOf p many)) rfl ?c0 ?c1 ?c2 (by omega) ?c3 ?c4 f2.out.size _ rfl ?c6))
  case c0 => simp [ints, lastOf_length]
  case c1 =>
    intro j u hj
    have hlt : j < many := by
      have := (List.getElem?_eq_some_iff.1 hj).1
      simpa [ints, lastOf_length] using this
    rw [Addr.add_mid, f1.out.cell, arr16_get _ (by omega)]
    simp only [ints, lastOf, List.getElem?_map, List.getElem?_range hlt] at hj
    simpa using hj
  case c2 => simp [ints, Value.oneCell']
  case c3 => unfold maxLen; omega
  case c4 => omega
  case c6 =>
    intro b' cap' w2 hown hgrow hat hlt'
    have hf3 : Hid (Fr [] w w2) := f2.out.grown hgrow (by simp [Value.ownBlock])
    have HO := Lib.hid hown
    clear hown hgrow hat
    go_wp2
    go_ret
    have e : (0 + many) = (lastOf p many).length := by rw [lastOf_length]; omega
    obtain ⟨_, hR⟩ := RdI.own (l := lastOf p many) (by have := HO.out; simpa [ints] using this)
    refine ⟨some ⟨b', 0, none⟩, cap', by simp [lastOf_length], hR, ?_, hf3.out⟩
    intro a ha
    obtain rfl : (⟨b', 0, none⟩ : Addr) = a := by simpa using ha
    exact (HO.out.lt b' rfl).1

def lastL (l : List Int) : List Int := l.drop (l.length - 16)

def RelH (w : World) (g b : Nat) (wanted most : Int) (l : List Int) (q : Nat) (v : Value) (wr : World) : Prop :=
  RIs wr g b wanted most l ∧ wr.ownsRow w.heap.size 3 1 v q (ints ((lastL l).take q)) ∧ Fr [] w wr

set_option maxRecDepth 100000 in
theorem take_next (l : List Int) (q : Nat) (x : Int) (h : l[q]? = some x) : l.take (q + 1) = l.take q ++ [x] := by
  have hlt := (List.getElem?_eq_some_iff.1 h).1
  rw [List.take_succ_eq_append_getElem hlt, (List.getElem?_eq_some_iff.1 h).2]

set_option maxRecDepth 100000 in
theorem rhistory_any (g b : Nat) (wanted most : Int) (l : List Int) (w : World) (h : RIs w g b wanted most l) (h1 : 1 ≤ l.length) (h2 : l.length ≤ 1000) :
    Calls Tryd.prog 11 #[.pointer (some ⟨g, 0, none⟩)] w (IntsBack (lastL l) w) := by
  have h0 := Lib.hid h
  have HREL : Hid (RelH w g b wanted most l 0 (.slice none 0 0) w) := ⟨h, by simpa [ints] using World.ownsRow_nil w w.heap.size 3 1, Fr.refl _ _⟩
  obtain ⟨cap, hb, ho⟩ := h
  have hc2 : w.cell? ⟨g, 2, none⟩ = some (.slice (some ⟨b, 0, none⟩) l.length cap) := hb.cell 2
  obtain ⟨s, d, hsd, hs, hd⟩ : ∃ s d : Nat, s + 16 = l.length + d ∧ Hid (s = l.length - 16) ∧ (0 < s → d = 0) := ⟨l.length - 16, 16 - l.length, by omega, rfl, by omega⟩
  have HSD := Lib.hid hsd
  have hsd1 : s + 16 ≤ l.length + d := by omega
  have hsd2 : l.length + d ≤ s + 16 := by omega
  have HD := Lib.hid hd
  clear hb ho hsd hd
  obtain ⟨i0, hi, hz0, hz1, hz2⟩ := info_parts int_info
  go_enter Tryd.func11, Tryd.ntmps11
  go_wp2
  go_loopw [3, 4] (fun v i wr => ∃ k : Nat, k ≤ 16 ∧ i = .int .i64 ((l.length : Int) - 16 + (k : Int)) ∧ RelH w g b wanted most l (k - d) v wr) (fun _ i _ => (1000 - intOf i).toNat)
  case atStart => exact ⟨0, by omega, by simp, by simpa using HREL.out⟩
  case round =>
    obtain ⟨k, hk, rfl, hRI, hown, hfr⟩ := hrel
    have HR := Lib.hid hRI
    have HO := Lib.hid hown
    have HF := Lib.hid hfr
    clear hRI hown hfr hc2
    obtain ⟨cap2, hb, ho⟩ := HR.out
    have hc2 : wr.cell? ⟨g, 2, none⟩ = some (.slice (some ⟨b, 0, none⟩) l.length cap2) := hb.cell 2
    have HB := Lib.hid hb
    have HOO := Lib.hid ho
    clear hb ho
    by_cases hlt : k < 16
    · by_cases hneg : k < d
      · have HS := HD.out
        go_wp2
        go_roundw
        case rel => exact ⟨k + 1, by omega, by go_num, by
          rw [show k + 1 - d = k - d from by omega]
          exact ⟨HR.out, HO.out, HF.out⟩⟩
        case measure => simp [intOf]; omega
      · obtain ⟨q, hq⟩ : ∃ q, k = q + d := ⟨k - d, by omega⟩
        subst hq
        rw [Nat.add_sub_cancel] at HO
        have hx : ∃ x, l[s + q]? = some x := ⟨_, List.getElem?_eq_getElem (by omega)⟩
        obtain ⟨x, hx⟩ := hx
        have hcx : wr.cell? ⟨b, s + q, none⟩ = some (.int .i64 x) := by
          rw [HOO.out.cellAt (s + q) (by omega), ints, List.getElem?_map, hx]
          rfl
        have HT : Hid ((lastL l).take (q + 1) = (lastL l).take q ++ [x]) := take_next _ _ _ (by
          rw [lastL, List.getElem?_drop, ← hs.out]
          exact hx)
        clear hx
        have hidx : (l.length : Int) - 16 + ((q + d : Nat) : Int) = ((s + q : Nat) : Int) := by have := HSD.out; omega
        rw [hidx]
        clear hidx
        go_wp2_with (at_builtin; refine wpList_append_lies _ rfl (.tmp 22) (.tmp 30) _ rfl w.heap.size 3 i0 (.int .i64 0) 1 8 Tryd.underlying29 hi hz0 hz1 hz2 rfl (by decide) _ q (ints ((lastL l).take q)) rfl (HO.out.alloc _) ⟨wr.heap.size, 0, none⟩ 1 1 [.int .i64 x] rfl rfl (cell_one_new _ _ _) ?c2 (by decide) ?c3 ?c4 ?c5 _ rfl ?c6)
        case c2 => simp [Value.oneCell']
        case c3 => unfold maxLen; omega
        case c4 => omega
        case c5 => have := HF.out.size; simp; omega
        case c6 =>
          intro b' cap' w2 hown2 hgrow hat hlt'
          have HO2 : Hid (w2.ownsRow w.heap.size 3 1 (.slice (some ⟨b', 0, none⟩) (q + 1) cap') (q + 1) (ints ((lastL l).take (q + 1)))) := by
            rw [HT.out]
            simpa [ints, Hid] using hown2
          have HF2 : Hid (Fr [] w w2) := (HF.out.alloc _).grown hgrow (fun j hj => .inr ((HO.out.lt j hj).1))
          have HR2 : Hid (RIs w2 g b wanted most l) := h0.out.fr HF2.out (by simp) (by simp)
          clear hown2 hgrow hat
          go_wp2
          go_roundw
          case rel => exact ⟨q + d + 1, by omega, by have := HSD.out; go_num; try omega, by
            rw [show q + d + 1 - d = q + 1 from by omega]
            exact ⟨HR2.out, HO2.out, HF2.out⟩⟩
          case measure => simp [intOf]; omega
    · have hk16 : k = 16 := by omega
      subst hk16
      go_wp2
      go_ret
      have hll : (lastL l).length = 16 - d := by rw [lastL, List.length_drop]; have e1 := HSD.out; have e2 := HD.out; have e3 := hs.out; omega
      have htk : (lastL l).take (16 - d) = lastL l := List.take_of_length_le (by omega)
      have hO := HO.out
      rw [htk] at hO
      obtain ⟨A, n, c, rfl⟩ : ∃ A n c, u3 = .slice A n c := by
        rcases hO.2 with ⟨rfl, _⟩ | ⟨_, _, _, rfl, _⟩
        · exact ⟨_, _, _, rfl⟩
        · exact ⟨_, _, _, rfl⟩
      have hn : n = 16 - d := by
        rcases hO.2 with ⟨he, h0'⟩ | ⟨_, _, _, he, _⟩
        · injection he with _ e2 _
          omega
        · injection he
      subst hn
      obtain ⟨_, hR⟩ := RdI.own (l := lastL l) hO
      refine ⟨A, c, by rw [hll]; rfl, hR, ?_, HF.out⟩
      intro a ha
      subst ha
      exact (hO.lt a.block rfl).1
/-- The program's past holds the last of the document's. -/
structure Hist (p : Nat → Int) (many : Int) (l : List Int) : Prop where
  n : many = ((min l.length 16 : Nat) : Int)
  pos : 1 ≤ l.length
  back : ∀ i, i < 16 → 16 ≤ l.length + i → l[l.length + i - 16]? = some (p i)

theorem Hist.first (most : Int) : Hist (past0 most) 1 [most] :=
  ⟨rfl, by simp, fun i hi h => by
    have : i = 15 := by simp at h; omega
    subst this
    simp [past0]⟩
theorem Hist.step {p : Nat → Int} {many : Int} {l : List Int} (h : Hist p many l) (x : Int) : Hist (Ten.shift p x) (min (many + 1) 16) (l ++ [x]) := by
  refine ⟨?_, by simp, fun i hi hl => ?_⟩
  · have := h.n
    simp only [List.length_append, List.length_cons, List.length_nil]
    omega
  · simp only [List.length_append, List.length_cons, List.length_nil] at hl ⊢
    unfold Ten.shift
    by_cases e : i = 15
    · subst e
      rw [show l.length + (0 + 1) + 15 - 16 = l.length from by omega]
      simp
    · rw [if_neg e, List.getElem?_append_left (by omega), show l.length + (0 + 1) + i - 16 = l.length + (i + 1) - 16 from by omega]
      exact h.back (i + 1) (by omega) (by omega)
theorem Hist.last {p : Nat → Int} {many : Int} {l : List Int} (h : Hist p many l) : l = l.dropLast ++ [p 15] := by
  have h1 := h.back 15 (by omega) (by have := h.pos; omega)
  have hp := h.pos
  have hne : l ≠ [] := by intro e; subst e; simp at hp
  rw [show l.length + 15 - 16 = l.length - 1 from by omega] at h1
  have h2 : l.getLast hne = p 15 := by
    rw [List.getLast_eq_getElem]
    exact (List.getElem?_eq_some_iff.1 h1).2
  rw [← h2]
  exact (List.dropLast_concat_getLast hne).symm
theorem Hist.same {p : Nat → Int} {many : Int} {l : List Int} (h : Hist p many l) : lastOf p many.toNat = lastL l := by
  have hn := h.n
  have hm : many.toNat = min l.length 16 := by omega
  rw [hm]
  refine List.ext_getElem? fun i => ?_
  unfold lastOf lastL
  rw [List.getElem?_drop]
  by_cases hlt : i < min l.length 16
  · rw [List.getElem?_map, List.getElem?_range hlt]
    have := h.back (16 - min l.length 16 + i) (by omega) (by omega)
    rw [show l.length + (16 - min l.length 16 + i) - 16 = l.length - 16 + i from by omega] at this
    rw [this]
    rfl
  · rw [List.getElem?_eq_none (by simp; omega), List.getElem?_eq_none (by omega)]

set_option maxRecDepth 100000 in
theorem old_any (g : Nat) (wanted most : Int) (p : Nat → Int) (many age : Int) (w : World) (h : Bk w g 63 (tcells wanted most p many)) :
    Calls Tryd.prog 6 #[.pointer (some ⟨g, 0, none⟩), .int .i64 age] w fun e w' => e = .returned (.bool (decide (p 15 ≤ age))) ∧ w = w' := by
  have HB := Lib.hid h
  clear h
  go_enter Tryd.func6, Tryd.ntmps6
  go_wp2_with fail
  refine (threshold_any g wanted most p many w HB.out).mono ?_
  rintro e w1 ⟨rfl, rfl⟩
  go_wp2_with fail
  go_ret
  exact ⟨rfl, rfl⟩
set_option maxRecDepth 100000 in
theorem rthreshold_hist {g b : Nat} {wanted most : Int} {l : List Int} {p : Nat → Int} {many : Int} {w : World} (h : RIs w g b wanted most l) (hh : Hist p many l) :
    Calls Tryd.prog 7 #[.pointer (some ⟨g, 0, none⟩)] w fun e w' => e = .returned (.int .i64 (p 15)) ∧ Fr [] w w' := by
  rw [hh.last] at h
  exact rthreshold_any g b wanted most l.dropLast (p 15) w h

set_option maxRecDepth 100000 in
theorem history_own (g : Nat) (wanted most : Int) (p : Nat → Int) (many : Nat) (w : World) (h : Bk w g 63 (tcells wanted most p many)) (h1 : 1 ≤ many) (h2 : many ≤ 16) :
    Calls Tryd.prog 9 #[.pointer (some ⟨g, 0, none⟩)] w fun e w' => ∃ b c, e = .returned (.slice (some ⟨b, 0, none⟩) many c) ∧ w'.ownsRow w.heap.size 3 1 (.slice (some ⟨b, 0, none⟩) many c) many (ints (lastOf p many)) ∧ Fr [] w w' := by
  have HB := Lib.hid h
  have hm : w.cell? ⟨g, 18, none⟩ = some (.int .i64 (many : Int)) := h.cell 18
  have hglt := h.lt
  have HRA : Hid (w.rangeAt g 2 (arr16 p).toList) := fun j v hj => by
    have hlt : j < 16 := (List.getElem?_eq_some_iff.1 hj).1
    have hk : j = 0 ∨ j = 1 ∨ j = 2 ∨ j = 3 ∨ j = 4 ∨ j = 5 ∨ j = 6 ∨ j = 7 ∨ j = 8 ∨ j = 9 ∨ j = 10 ∨ j = 11 ∨ j = 12 ∨ j = 13 ∨ j = 14 ∨ j = 15 := by omega
    rw [← hj]
    rcases hk with h | h | h | h | h | h | h | h | h | h | h | h | h | h | h | h <;> subst h <;> exact HB.out.cell _
  clear h
  obtain ⟨w1, hw1⟩ : ∃ w1, w1 = ((w.alloc (.cells (arr16 fun _ => 0) 53)).setRow w.heap.size (arr16 p)) := ⟨_, rfl⟩
  have f1 : Hid (Bk w1 w.heap.size 53 (arr16 p)) := by
    subst hw1
    exact setRow_heap _ _ _ _ _ _ (heap_alloc_new w _)
  have f2 : Hid (Fr [] w w1) := by
    subst hw1
    exact ⟨rfl, rfl, rfl, by simp, fun k hk _ => (setRow_other _ _ _ _ (by omega)).trans (Below.heap_alloc w _ k hk)⟩
  have H1 := Lib.hid hw1
  clear hw1
  have hsz : w.heap.size < w1.heap.size := f1.out.lt
  have hm' : w1.cell? ⟨g, 18, none⟩ = some (.int .i64 (many : Int)) := (World.cell?_of_block (f2.out.block g hglt (by simp))).trans hm
  obtain ⟨i0, hi, hz0, hz1, hz2⟩ := info_parts int_info
  have hsl := slice16 w.heap.size many h1 h2
  go_enter Tryd.func9, Tryd.ntmps9
  go_wp2_with (first | (refine wpList_load_mid rfl 53 _ rfl g 2 rfl (arr16 p).toList _ HRA.out Tryd.underlying53 rfl (by kernel_rfl) ?_) | (refine wpList_store_row rfl 53 _ _ rfl w.heap.size (arr16 p) rfl rfl 53 _ (heap_alloc_new w _) (by kernel_rfl) rfl (by simp [arr16, Value.oneCell']) ?_; change wpList _ _ _ _ _ ((w.alloc (.cells (arr16 fun _ => 0) 53)).setRow w.heap.size (arr16 p)); rw [← H1.out]) | (at_builtin; refine wpList_append_lies _ rfl (.const (.slice none 0 0)) (.tmp 13) _ rfl w.heap.size 3 i0 (.int .i64 0) 1 8 Tryd.underlying29 hi hz0 hz1 hz2 rfl (by decide) _ 0 [] rfl (World.ownsRow_nil _ _ _ _) ⟨w.heap.size, 16 - many, none⟩ many many (ints (lastOf p many)) rfl ?c0 ?c1 ?c2 (by omega) ?c3 ?c4 f2.out.size _ rfl ?c6))
  case c0 => simp [ints, lastOf_length]
  case c1 =>
    intro j u hj
    have hlt : j < many := by
      have := (List.getElem?_eq_some_iff.1 hj).1
      simpa [ints, lastOf_length] using this
    rw [Addr.add_mid, f1.out.cell, arr16_get _ (by omega)]
    simp only [ints, lastOf, List.getElem?_map, List.getElem?_range hlt] at hj
    simpa using hj
  case c2 => simp [ints, Value.oneCell']
  case c3 => unfold maxLen; omega
  case c4 => omega
  case c6 =>
    intro b' cap' w2 hown hgrow hat hlt'
    have hf3 : Hid (Fr [] w w2) := f2.out.grown hgrow (by simp [Value.ownBlock])
    have HO := Lib.hid hown
    clear hown hgrow hat
    go_wp2
    go_ret
    exact ⟨b', cap', by first | rfl | (simp; done), by first | exact HO.out | (have := HO.out; simpa using this), hf3.out⟩
set_option maxRecDepth 100000 in
theorem rold_any {g b : Nat} {wanted most : Int} {l : List Int} {p : Nat → Int} {many : Int} {w : World} (age : Int) (h : RIs w g b wanted most l) (hh : Hist p many l) :
    Calls Tryd.prog 8 #[.pointer (some ⟨g, 0, none⟩), .int .i64 age] w fun e w' => e = .returned (.bool (decide (p 15 ≤ age))) ∧ Fr [] w w' := by
  have HC := Lib.hid (rthreshold_hist h hh)
  clear h hh
  go_enter Tryd.func8, Tryd.ntmps8
  go_wp2_with fail
  refine (Calls.mono HC.out ?_)
  rintro e w1 ⟨rfl, hf⟩
  have HF := Lib.hid hf
  clear hf
  go_wp2_with fail
  go_ret
  exact ⟨rfl, HF.out⟩
end Go.Proofs.YtdcppdgnekhcgaaDoor
