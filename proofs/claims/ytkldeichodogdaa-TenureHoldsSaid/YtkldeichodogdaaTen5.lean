/-
  The loop of TenureTurns: every Turn answers alike.
-/
import Derived.Test.YtkldeichodogdaaTen4
import Derived.Deep.MidRow
namespace Go.Proofs.Ytkldeichodogdaa
open Go.RowKit Ten

/-- A slice of turns: for each a row of sixteen words. -/
def Turns (w : World) (A : Option Addr) (n : Nat) (F : Nat → Nat → Int) : Prop :=
  n ≤ 9223372036854775807 ∧ (0 < n → ∃ b o, A = some ⟨b, o, none⟩ ∧ b < w.heap.size ∧ ∀ i, i < n → w.rangeAt b (o + i * 16) (arr16 (F i)).toList)

theorem Turns.fr {w w' : World} {A : Option Addr} {n : Nat} {F : Nat → Nat → Int} (h : Turns w A n F) (hf : Fr [] w w') : Turns w' A n F :=
  ⟨h.1, fun hn => by
    obtain ⟨b, o, rfl, hb, hr⟩ := h.2 hn
    exact ⟨b, o, rfl, Nat.lt_of_lt_of_le hb hf.size, fun i hi j v hv => (World.cell?_of_block (hf.block b hb (by simp))).trans (hr i hi j v hv)⟩⟩

/-- The program's and the document's Tenure beside one another, behind k turns. -/
structure Pair (w : World) (g h : Nat) (wanted : Int) (most : Nat) (p : Nat → Int) (many : Int) (b : Nat) (l : List Int) : Prop where
  T : Bk w g 49 (tcells wanted most p many)
  R : RIs w h b wanted most l
  w0 : 0 ≤ wanted
  w1 : wanted ≤ 65536
  m0 : 1 ≤ most
  m1 : most ≤ 15
  n0 : 1 ≤ many
  n1 : many ≤ 16

theorem Pair.ne {w : World} {g h : Nat} {wanted : Int} {most : Nat} {p : Nat → Int} {many : Int} {b : Nat} {l : List Int} (P : Pair w g h wanted most p many b l) : g ≠ h ∧ g ≠ b := by
  obtain ⟨cap, hb, ho⟩ := P.R
  obtain ⟨cur, hc, _⟩ := own_lt ho
  have hg := P.T
  unfold Bk at hg hb
  constructor
  · rintro rfl
    rw [hg] at hb
    injection hb with hb
    injection hb with _ ht
    exact absurd ht (by decide)
  · rintro rfl
    rw [hg] at hc
    injection hc with hc
    injection hc with _ ht
    exact absurd ht (by decide)
theorem Pair.fr {w w' : World} {g h : Nat} {wanted : Int} {most : Nat} {p : Nat → Int} {many : Int} {b : Nat} {l : List Int} {S : List Nat} (P : Pair w g h wanted most p many b l) (hf : Fr S w w')
    (h1 : g ∉ S) (h2 : h ∉ S) (h3 : b ∉ S) : Pair w' g h wanted most p many b l := ⟨P.T.fr hf h1, P.R.fr hf h2 h3, P.w0, P.w1, P.m0, P.m1, P.n0, P.n1⟩

def RelT (w : World) (g h : Nat) (wanted : Int) (most k : Nat) (wr : World) : Prop :=
  ∃ p many b l, Pair wr g h wanted most p many b l ∧ l.length ≤ k + 1 ∧ w.heap.size ≤ b ∧ Fr [] w wr

set_option maxRecDepth 100000 in
theorem turns_ok (s t : Int) (m : Nat) (A : Option Addr) (n c : Nat) (F : Nat → Nat → Int) (w : World) (hT : Turns w A n F) (h1 : 1 ≤ s) (h2 : s ≤ 65536) (h3 : 1 ≤ t) (h4 : t ≤ 100) (h5 : 1 ≤ m) (h6 : m ≤ 15) :
    Calls Try.prog 4 #[.int .i64 s, .int .i64 t, .int .i64 m, .slice A n c] w fun e w' => e = .returned (.bool true) ∧ Fr [] w w' := by
  have hn := hT.1
  have HT := Lib.hid hT
  clear hT
  obtain ⟨hm1, hm2⟩ := mul_le h1 h2 h3 h4
  go_enter Try.func4, Try.ntmps4
  go_wp2_with fail
  refine (begin_ok _ _ _ _ h1 h2 h3 h4 (by omega) (by omega)).mono ?_
  rintro e w1 ⟨g, h, b, rfl, hg, hh, hb, hB, hR, hF⟩
  have HI : Hid (RelT w g h (s * t / 100) m 0 w1) := ⟨_, _, b, [(m : Int)], ⟨hB, hR, by omega, by omega, h5, h6, by omega, by omega⟩, by simp, hb, hF⟩
  have HG : Hid (w.heap.size ≤ g ∧ w.heap.size ≤ h) := ⟨hg, hh⟩
  clear hB hR hF hg hh hb
  go_wp2_with fail
  go_loopw [12] (fun i wr => ∃ k : Nat, k ≤ 200 ∧ k ≤ n ∧ i = .int .i64 k ∧ RelT w g h (s * t / 100) m k wr) (fun i _ => 200 - (intOf i).toNat)
  case atStart => exact ⟨0, by omega, by omega, rfl, HI.out⟩
  case round =>
    obtain ⟨k, hk, hkn, rfl, hrel⟩ := hrel
    have HREL := Lib.hid hrel
    clear hrel
    by_cases hlt : k < n ∧ k < 200
    · obtain ⟨hl1, hl2⟩ := hlt
      obtain ⟨bT, oT, rfl, hbT, hrT⟩ := HT.out.2 (by omega)
      obtain ⟨p, many, b2, l, hP, hlen, hb2, hf⟩ := HREL.out
      have hra : wr.rangeAt bT (oT + k * 16) (arr16 (F k)).toList := fun j v hv => (World.cell?_of_block (hf.block bT hbT (by simp))).trans (hrT k hl1 j v hv)
      have HRA := Lib.hid hra
      have HP := Lib.hid hP
      have HF := Lib.hid hf
      clear hra hP hf hrT
      by_cases hok : okW (F k)
      · have HOK := Lib.hid hok
        clear hok
        go_wp2_with (refine wpList_load_mid rfl 31 _ rfl bT (oT + k * 16) rfl (arr16 (F k)).toList _ HRA.out Try.underlying31 rfl (by kernel_rfl) ?_)
        refine (turn_ok (F k) g (s * t / 100) m p many wr HP.out.T HOK.out HP.out.w0 HP.out.w1 HP.out.m0 HP.out.m1 (by have := HP.out.n0; omega) HP.out.n1).mono ?_
        rintro e w2 ⟨rfl, hB2, hf2⟩
        have HP2 : Hid (Pair w2 g h (s * t / 100) m (shift p (next (F k) (s * t / 100) m)) (min (many + 1) 16) b2 l) :=
          ⟨hB2, HP.out.R.fr hf2 (by simpa using HP.out.ne.1.symm) (by simpa using HP.out.ne.2.symm), HP.out.w0, HP.out.w1, HP.out.m0, HP.out.m1, by have := HP.out.n0; omega, by omega⟩
        have HF2 : Hid (Fr [] w w2) := HF.out.trans hf2 (by have := HG.out.1; simp; omega)
        have HRA2 : Hid (w2.rangeAt bT (oT + k * 16) (arr16 (F k)).toList) := fun j v hv => (World.cell?_of_block (hf2.block bT (Nat.lt_of_lt_of_le hbT HF.out.size) (by have := HG.out.1; simp; omega))).trans (HRA.out j v hv)
        clear hB2 hf2
        go_wp2_with (refine wpList_load_mid rfl 31 _ rfl bT (oT + k * 16) rfl (arr16 (F k)).toList _ HRA2.out Try.underlying31 rfl (by kernel_rfl) ?_)
        refine (rturn_ok (F k) h b2 (s * t / 100) m l w2 HP2.out.R (by omega) HOK.out HP.out.w0 HP.out.w1 HP.out.m0 HP.out.m1).mono ?_
        rintro e w3 ⟨b3, rfl, hR3, hb3, hf3⟩
        have HREL3 : Hid (RelT w g h (s * t / 100) m (k + 1) w3) := by
          have hs2 := HF2.out.size
          refine ⟨_, _, b3, _, ⟨HP2.out.T.fr hf3 (by simpa using HP2.out.ne), hR3, HP.out.w0, HP.out.w1, HP.out.m0, HP.out.m1, HP2.out.n0, HP2.out.n1⟩, by simp; omega, by omega, HF2.out.trans hf3 ?_⟩
          have := HG.out.2
          simp
          omega
        clear hR3 hb3 hf3
        go_wp2_with fail
        refine (num_any _ _).mono ?_
        rintro e w4 ⟨rfl, rfl⟩
        go_wp2_with fail
        go_roundw
        case rel => exact ⟨k + 1, by omega, by omega, by go_num, HREL3.out⟩
        case measure => simp [intOf]; omega
      · have HOK := Lib.hid hok
        clear hok
        go_wp2_with (refine wpList_load_mid rfl 31 _ rfl bT (oT + k * 16) rfl (arr16 (F k)).toList _ HRA.out Try.underlying31 rfl (by kernel_rfl) ?_)
        refine (turn_bad (F k) g (s * t / 100) m p many wr HP.out.T HOK.out).mono ?_
        rintro e w2 ⟨rfl, hf2⟩
        have HP2 := Lib.hid (HP.out.fr hf2 (by simp) (by simp) (by simp))
        have HF2 : Hid (Fr [] w w2) := HF.out.trans hf2 (by simp)
        have HRA2 : Hid (w2.rangeAt bT (oT + k * 16) (arr16 (F k)).toList) := fun j v hv => (World.cell?_of_block (hf2.block bT (Nat.lt_of_lt_of_le hbT HF.out.size) (by simp))).trans (HRA.out j v hv)
        clear hf2
        go_wp2_with (refine wpList_load_mid rfl 31 _ rfl bT (oT + k * 16) rfl (arr16 (F k)).toList _ HRA2.out Try.underlying31 rfl (by kernel_rfl) ?_)
        refine (rturn_bad (F k) h w2 HOK.out).mono ?_
        rintro e w3 ⟨rfl, hf3⟩
        have HREL3 : Hid (RelT w g h (s * t / 100) m (k + 1) w3) := ⟨_, _, b2, _, HP2.out.fr hf3 (by simp) (by simp) (by simp), by omega, hb2, HF2.out.trans hf3 (by simp)⟩
        clear hf3
        go_wp2_with fail
        refine (num_any _ _).mono ?_
        rintro e w4 ⟨rfl, rfl⟩
        go_wp2_with fail
        go_roundw
        case rel => exact ⟨k + 1, by omega, by omega, by go_num, HREL3.out⟩
        case measure => simp [intOf]; omega
    · go_wp2_with fail
      all_goals
        go_ret
        exact ⟨rfl, HREL.out.choose_spec.choose_spec.choose_spec.choose_spec.2.2.2⟩

theorem turns_no (s t m : Int) (v : Value) (w : World) (h : s < 1 ∨ 65536 < s ∨ t < 1 ∨ 100 < t ∨ m < 1 ∨ 15 < m) :
    Calls Try.prog 4 #[.int .i64 s, .int .i64 t, .int .i64 m, v] w fun e w' => e = .returned (.bool true) ∧ Fr [] w w' := by
  have H := Lib.hid h
  clear h
  go_enter Try.func4, Try.ntmps4
  go_wp2_with fail
  refine (begin_no _ _ _ _ H.out).mono ?_
  rintro e w1 ⟨rfl, rfl⟩
  go_wp2_with fail
  go_ret
  exact ⟨rfl, Fr.refl _ _⟩
end Go.Proofs.Ytkldeichodogdaa
