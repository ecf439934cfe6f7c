/-
  Bag: known; few.
-/
import Derived.Test.YtdjaalkbpdmdgaaBg5
namespace Go.Proofs.Ytdjaalkbpdmdgaa
open Go.RowKit
set_option linter.unusedVariables false

theorem Sk.step {t : TypeId} {b0 : Nat} {w w1 w2 : World} {g : Nat} {most : Int} {v : Value} {l : List Int} (h : Sk t b0 w1 g most v l) (hf : Fr [] w w1) (hb : w.heap.size ≤ b0) (h2 : Fr (skT g v) w1 w2) : Fr [] w w2 :=
  hf.trans h2 (fun x hx => .inr (Nat.le_trans hb (h.base x hx)))
theorem TbT.base {b0 : Nat} {w : World} {g : Nat} {v : Value} {l : List PT} (h : TbT b0 w g v l) : ∀ x ∈ skT g v, b0 ≤ x := by
  intro x hx
  simp only [skT, List.mem_cons, Option.mem_toList] at hx
  rcases hx with rfl | hx
  · exact h.b
  · exact (h.L.lt x hx).1
theorem TbT.step {b0 : Nat} {w w1 w2 : World} {g : Nat} {v : Value} {l : List PT} (h : TbT b0 w1 g v l) (hf : Fr [] w w1) (hb : w.heap.size ≤ b0) (h2 : Fr (skT g v) w1 w2) : Fr [] w w2 :=
  hf.trans h2 (fun x hx => .inr (Nat.le_trans hb (h.base x hx)))

def kb : ByteArray := ⟨#[98]⟩
def ka : ByteArray := ⟨#[97]⟩
def kaa : ByteArray := ⟨#[97, 97]⟩
def T1 : List PT := [(kb, 2)]
def T2 : List PT := [(ka, 1), (kb, 2)]
def T3 : List PT := [(ka, 1), (kb, 3)]
theorem tl1 : (⟨#[98]⟩ : ByteArray).toList = [98] := by decide +kernel
theorem tl2 : (⟨#[97]⟩ : ByteArray).toList = [97] := by decide +kernel
theorem tl3 : (⟨#[97, 97]⟩ : ByteArray).toList = [97, 97] := by decide +kernel
theorem cm1 : cmT kb ka = 1 := by unfold cmT ltT eqT kb ka; rw [tl1, tl2]; decide
theorem cm2 : cmT kb kb = 0 := by unfold cmT ltT eqT kb; rw [tl1]; decide
theorem cm3 : cmT ka kb = -1 := by unfold cmT ltT eqT kb ka; rw [tl1, tl2]; decide
theorem cm4 : cmT kb kaa = 1 := by unfold cmT ltT eqT kb kaa; rw [tl1, tl3]; decide
theorem cm5 : cmT ka kaa = -1 := by unfold cmT ltT eqT ka kaa; rw [tl2, tl3]; decide
theorem p1 : plT [] kb = 0 := rfl
theorem pb1 : pbT [] kb = false := rfl
theorem s1 : tsetT [] kb 2 = T1 := rfl
theorem p2 : plT T1 ka = 0 := by simp [plT, T1, bsF, lessT, cm1]
theorem pb2 : pbT T1 ka = false := by unfold pbT; rw [p2]; simp [T1, cm1]
theorem s2 : tsetT T1 ka 1 = T2 := by unfold tsetT; rw [pb2, p2]; rfl
theorem p3 : plT T2 kb = 1 := by simp [plT, T2, bsF, lessT, cm2, cm3]
theorem pb3 : pbT T2 kb = true := by unfold pbT; rw [p3]; simp [T2, cm2]
theorem s3 : tsetT T2 kb 3 = T3 := by unfold tsetT; rw [if_pos pb3, p3]; rfl
theorem p4 : plT T3 kaa = 1 := by simp [plT, T3, bsF, lessT, cm4, cm5]
theorem pb4 : pbT T3 kaa = false := by unfold pbT; rw [p4]; simp [T3, cm4]
theorem n4 : nrT T3 kaa = some (ka, 1) := by unfold nrT; rw [pb4, p4]; rfl

set_option maxRecDepth 100000 in
set_option maxHeartbeats 1600000 in
theorem known_any (w : World) : Calls Try.prog 7 #[] w fun e w' => e = .returned (.bool true) ∧ Fr [] w w' := by
  go_enter Try.func7, Try.ntmps7
  go_wp2_with fail
  refine (stack_new w.heap.size 2 w (by omega) (Nat.le_refl _)).mono ?_
  rintro e w1 ⟨g, rfl, hS, hf1, hg⟩
  have HS1 := Lib.hid hS
  have HF1 := Lib.hid hf1
  have hz1 := hf1.size
  clear hS hf1 hg
  go_wp2_with fail
  refine (num_any 0 w1).mono ?_
  rintro e w2 ⟨rfl, rfl⟩
  go_wp2_with fail
  refine (stack_add w.heap.size g 2 _ [] 5 w1 HS1.out rfl (by simp) hz1 (by decide)).mono ?_
  rintro e w2 ⟨rfl, v2, hS, hf2, _⟩
  have HS2 := Lib.hid hS
  have HF2 := Lib.hid (HS1.out.step HF1.out (Nat.le_refl _) hf2)
  have hz2 := HF2.out.size
  clear hS hf2
  go_wp2_with fail
  refine (stack_add w.heap.size g 2 _ [5] 7 w2 HS2.out (by decide) (by simp) hz2 (by decide)).mono ?_
  rintro e w3 ⟨rfl, v3, hS, hf3, _⟩
  have HS3 := Lib.hid hS
  have HF3 := Lib.hid (HS2.out.step HF2.out (Nat.le_refl _) hf3)
  have hz3 := HF3.out.size
  clear hS hf3
  go_wp2_with fail
  refine (stack_full w.heap.size g 2 _ [5, 7] 9 w3 HS3.out (by decide)).mono ?_
  rintro e w4 ⟨rfl, v4, hS, hf4, _⟩
  have HS4 := Lib.hid hS
  have HF4 := Lib.hid (HS3.out.step HF3.out (Nat.le_refl _) hf4)
  have hz4 := HF4.out.size
  clear hS hf4
  go_wp2_with fail
  refine (stack_take w.heap.size g 2 _ [5, 7] 1 7 w4 HS4.out rfl rfl (by decide)).mono ?_
  rintro e w5 ⟨rfl, v5, hS, hf5, _⟩
  have HS5 := Lib.hid hS
  have HF5 := Lib.hid (HS4.out.step HF4.out (Nat.le_refl _) hf5)
  have hz5 := HF5.out.size
  clear hS hf5
  go_wp2_with fail
  refine (num_any 0 w5).mono ?_
  rintro e w6 ⟨rfl, rfl⟩
  go_wp2_with fail
  refine (num_any 0 w5).mono ?_
  rintro e w6 ⟨rfl, rfl⟩
  go_wp2_with fail
  refine (num_any 11 w5).mono ?_
  rintro e w6 ⟨rfl, rfl⟩
  go_wp2_with fail
  refine (stack_len w.heap.size g 2 _ [5] w5 HS5.out).mono ?_
  rintro e w6 ⟨rfl, rfl⟩
  go_wp2_with fail
  refine (tbT_new w.heap.size w5 hz5).mono ?_
  rintro e w6 ⟨gt, rfl, hT, hf6, _⟩
  have HT6 := Lib.hid hT
  have HF6 := Lib.hid (HF5.out.trans hf6 (by simp))
  have hz6 := HF6.out.size
  clear hT hf6
  have C1 : Hid (Calls Try.prog 34 #[.pointer (some ⟨gt, 0, none⟩), .string ⟨#[98]⟩, .int .i64 2] w6 (TbTTo w.heap.size gt (.slice none 0 0) T1 (.bool true) w6)) := by
    have := setT_any w.heap.size gt _ [] kb 2 w6 HT6.out (by simp) hz6
    rw [s1, pb1] at this
    exact this
  go_wp2_with fail
  refine (Calls.mono C1.out ?_)
  rintro e w7 ⟨rfl, v7, hT, hf7, _⟩
  have HT7 := Lib.hid hT
  have HF7 := Lib.hid (HT6.out.step HF6.out (Nat.le_refl _) hf7)
  have hz7 := HF7.out.size
  clear hT hf7
  have C2 : Hid (Calls Try.prog 34 #[.pointer (some ⟨gt, 0, none⟩), .string ⟨#[97]⟩, .int .i64 1] w7 (TbTTo w.heap.size gt v7 T2 (.bool true) w7)) := by
    have := setT_any w.heap.size gt _ T1 ka 1 w7 HT7.out (by simp [T1]) hz7
    rw [s2, pb2] at this
    exact this
  go_wp2_with fail
  refine (Calls.mono C2.out ?_)
  rintro e w8 ⟨rfl, v8, hT, hf8, _⟩
  have HT8 := Lib.hid hT
  have HF8 := Lib.hid (HT7.out.step HF7.out (Nat.le_refl _) hf8)
  have hz8 := HF8.out.size
  clear hT hf8
  have C3 : Hid (Calls Try.prog 34 #[.pointer (some ⟨gt, 0, none⟩), .string ⟨#[98]⟩, .int .i64 3] w8 (TbTTo w.heap.size gt v8 T3 (.bool false) w8)) := by
    have := setT_any w.heap.size gt _ T2 kb 3 w8 HT8.out (by simp [T2]) hz8
    rw [s3, pb3] at this
    exact this
  go_wp2_with fail
  refine (Calls.mono C3.out ?_)
  rintro e w9 ⟨rfl, v9, hT, hf9, _⟩
  have HT9 := Lib.hid hT
  have HF9 := Lib.hid (HT8.out.step HF8.out (Nat.le_refl _) hf9)
  clear hT hf9
  have C4 : Hid (Calls Try.prog 35 #[.pointer (some ⟨gt, 0, none⟩), .string ⟨#[97, 97]⟩] w9 fun e w' => e = .returned (.tuple #[.string ⟨#[97]⟩, .int .i64 1, .bool true]) ∧ Fr [] w9 w') := by
    have := nearT_any w.heap.size gt _ T3 kaa w9 HT9.out (by simp [T3])
    rw [n4] at this
    exact this
  go_wp2_with fail
  refine (Calls.mono C4.out ?_)
  rintro e w10 ⟨rfl, hf10⟩
  have HT10 := Lib.hid (HT9.out.fr hf10 (by simp) (by simp))
  have HF10 := Lib.hid (HF9.out.trans hf10 (by simp))
  clear hf10
  go_wp2_with fail
  refine (tbT_len w.heap.size gt _ T3 w10 HT10.out).mono ?_
  rintro e w11 ⟨rfl, rfl⟩
  rw [show (T3.length : Int) = 2 from rfl]
  go_wp2_with fail
  go_ret
  exact ⟨rfl, HF10.out⟩

/-- What few gives. -/
theorem few_any (A : Option Addr) (n c : Nat) (w : World) (hnc : n ≤ c) (hc : c ≤ 9223372036854775807) :
    Calls Try.prog 8 #[.slice A n c] w fun e w' => (∃ m c', m = min n 500 ∧ e = .returned (.slice A m c')) ∧ w = w' := by
  by_cases h : 500 < n
  · have d : decide ((500 : Int) < (n : Int)) = true := decide_eq_true (by omega)
    have i1 : (500 : Int) ≤ (c : Int) := by omega
    go_enter Try.func8, Try.ntmps8
    go_wp2_with fail
    go_ret
    exact ⟨⟨500, c, by omega, rfl⟩, rfl⟩
  · have d : decide ((500 : Int) < (n : Int)) = false := decide_eq_false (by omega)
    go_enter Try.func8, Try.ntmps8
    go_wp2_with fail
    go_ret
    exact ⟨⟨n, c, by omega, rfl⟩, rfl⟩
end Go.Proofs.Ytdjaalkbpdmdgaa
