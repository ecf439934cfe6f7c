/-
  Bag: a sequence of ints as a function value (SeqI), and what ints (exact.go) gathers of it.
-/
import Derived.Test.YtdjaalkbpdmdgaaGreatBg13
import Derived.Test.YtdjaalkbpdmdgaaGreatSame1
import Derived.Test.YtdjaalkbpdmdgaaGreatBgOpen
namespace Go.Proofs.YtdjaalkbpdmdgaaGreat
open Go.RowKit Go.Shelf
set_option linter.unusedVariables false

/-- The blocks of B are as they were. -/
structure Sm (B : List Nat) (w w' : World) : Prop where
  os : w'.os = w.os
  tape : w'.tape = w.tape
  output : w'.output = w.output
  size : w.heap.size ≤ w'.heap.size
  block : ∀ k ∈ B, w'.heap[k]? = w.heap[k]?
theorem Sm.refl (B : List Nat) (w : World) : Sm B w w := ⟨rfl, rfl, rfl, Nat.le_refl _, fun _ _ => rfl⟩
theorem Sm.trans {B : List Nat} {a b c : World} (h : Sm B a b) (k : Sm B b c) : Sm B a c :=
  ⟨k.os.trans h.os, k.tape.trans h.tape, k.output.trans h.output, Nat.le_trans h.size k.size, fun i hi => (k.block i hi).trans (h.block i hi)⟩
theorem Sm.of_fr {B S : List Nat} {a b : World} (h : Fr S a b) (hB : ∀ x ∈ B, x < a.heap.size ∧ x ∉ S) : Sm B a b := ⟨h.os, h.tape, h.output, h.size, fun k hk => h.block k (hB k hk).1 (hB k hk).2⟩
theorem Sm.of_kb {n₀ : Nat} {B T : List Nat} {a b : World} (h : Kb n₀ T a b) (hB : ∀ x ∈ B, x < a.heap.size ∧ x < n₀ ∧ x ∉ T) : Sm B a b := ⟨h.os, h.tape, h.output, h.size, fun k hk => h.block k (hB k hk).2.1 (hB k hk).1 (hB k hk).2.2⟩
theorem Sm.fr {B : List Nat} {a b : World} (h : Sm B a b) : Fr ((List.range a.heap.size).filter (fun k => decide (k ∉ B))) a b :=
  ⟨h.os, h.tape, h.output, h.size, fun k hk hn => h.block k (Decidable.byContradiction fun hb => hn (by simp [hk, hb]))⟩
theorem Sm.off {B : List Nat} {a : World} {k : Nat} (hk : k ∈ B) : k ∉ (List.range a.heap.size).filter (fun k => decide (k ∉ B)) := by simp [hk]

/-- What a caller may hand to an iterator of L. -/
def Hand {α : Type} (P : Program) (gs : Nat) (sc : Array Value) (L : List α) (enc : α → Array Value) (w : World) : Prop :=
  ∀ (gy : Nat) (caps : Array Value) (eg : ∀ args w, (callFunc gy args).run P w = .ok (.enter gy args) w) (T : List Nat) (hT : ∀ x ∈ T, x < w.heap.size) (U Ux : Nat → List α → World → Prop)
    (hUa : ∀ n₀ pre W o, U n₀ pre W → U n₀ pre (W.alloc o)) (hU0 : ∀ n₀ W, w.heap.size ≤ n₀ → n₀ = W.heap.size → Fr [] w W → U n₀ [] W)
    (hY : ∀ n₀ pre (x : α) W, w.heap.size ≤ n₀ → n₀ ≤ W.heap.size → pre ++ [x] <+: L → Kb n₀ T w W → U n₀ pre W → Calls P gy (enc x ++ caps) W (Usr n₀ T (U n₀) (Ux n₀) pre x W)),
    Calls P gs (#[.func (.func gy) #[] caps] ++ sc) w (AllOk w T U Ux L)

/-- The function value gs with sc is an iterator of L; it leans on the blocks B. -/
def Seq {α : Type} (P : Program) (gs : Nat) (sc : Array Value) (L : List α) (enc : α → Array Value) (B : List Nat) (w : World) : Prop :=
  (∀ x ∈ B, x < w.heap.size) ∧ ∀ w', Sm B w w' → Hand P gs sc L enc w'
theorem Seq.sm {α : Type} {P : Program} {gs : Nat} {sc : Array Value} {L : List α} {enc : α → Array Value} {B : List Nat} {w w' : World} (h : Seq P gs sc L enc B w) (hs : Sm B w w') : Seq P gs sc L enc B w' :=
  ⟨fun x hx => Nat.lt_of_lt_of_le (h.1 x hx) hs.size, fun w2 h2 => h.2 w2 (hs.trans h2)⟩
theorem Seq.hand {α : Type} {P : Program} {gs : Nat} {sc : Array Value} {L : List α} {enc : α → Array Value} {B : List Nat} {w : World} (h : Seq P gs sc L enc B w) : Hand P gs sc L enc w := h.2 w (Sm.refl _ _)

def encI (x : Int) : Array Value := #[.int .i64 x]
def encN (x : PN) : Array Value := #[kN x.1, vN x.2]

theorem stack_seq (b0 g bm : Nat) (most : Int) (v : Value) (l : List Int) (hl : l.length ≤ 1000000) (w : World) (hS : Sk 121 b0 w g most v l) (hB : Bk w bm 33 #[.pointer (some ⟨g, 0, none⟩)]) :
    Seq Tryz.prog 79 #[.pointer (some ⟨bm, 0, none⟩)] l.reverse encI (bm :: skT g v) w := by
  refine ⟨fun x hx => by rcases List.mem_cons.1 hx with rfl | h; exact hB.lt; exact hS.lt x h, fun w' hs gy caps eg T hT U Ux hUa hU0 hY => ?_⟩
  exact stack_all1 b0 g most v l hl w' (hS.fr hs.fr (Sm.off (by simp [skT])) (fun k hk => Sm.off (by simp [skT, hk]))) bm gy caps ((hB.fr hs.fr (Sm.off (by simp))).cell 0) eg T hT U Ux hU0 hY
theorem queue_seq (b0 g bm : Nat) (most : Int) (v : Value) (l : List Int) (hl : l.length ≤ 1000000) (w : World) (hS : Sk 122 b0 w g most v l) (hB : Bk w bm 35 #[.pointer (some ⟨g, 0, none⟩)]) :
    Seq Tryz.prog 83 #[.pointer (some ⟨bm, 0, none⟩)] l encI (bm :: skT g v) w := by
  refine ⟨fun x hx => by rcases List.mem_cons.1 hx with rfl | h; exact hB.lt; exact hS.lt x h, fun w' hs gy caps eg T hT U Ux hUa hU0 hY => ?_⟩
  exact queue_all1 b0 g most v l hl w' (hS.fr hs.fr (Sm.off (by simp [skT])) (fun k hk => Sm.off (by simp [skT, hk]))) bm gy caps ((hB.fr hs.fr (Sm.off (by simp))).cell 0) eg T hT U Ux hU0 hY
theorem TbN.lt {b0 : Nat} {w : World} {g : Nat} {v : Value} {l : List PN} (h : TbN b0 w g v l) : ∀ x ∈ skT g v, x < w.heap.size := by
  intro x hx
  simp only [skT, List.mem_cons, Option.mem_toList] at hx
  rcases hx with rfl | hx
  · exact h.B.lt
  · exact (h.L.lt x hx).2
theorem table_seq (b0 g bm : Nat) (v : Value) (l : List PN) (hl : l.length ≤ 1000000) (w : World) (hS : TbN b0 w g v l) (hB : Bk w bm 39 #[.pointer (some ⟨g, 0, none⟩)]) :
    Seq Tryz.prog 101 #[.pointer (some ⟨bm, 0, none⟩)] l encN (bm :: skT g v) w := by
  refine ⟨fun x hx => by rcases List.mem_cons.1 hx with rfl | h; exact hB.lt; exact hS.lt x h, fun w' hs gy caps eg T hT U Ux hUa hU0 hY => ?_⟩
  exact table_all1 b0 g v l hl w' (hS.fr hs.fr (Sm.off (by simp [skT])) (fun k hk => Sm.off (by simp [skT, hk]))) bm gy caps ((hB.fr hs.fr (Sm.off (by simp))).cell 0) eg T hT U Ux hUa hU0 hY

/-- What ints' closure holds. -/
structure Iw (n₀ bo be bl bs : Nat) (stop : Int) (ended : Bool) (pre : List Int) (W : World) : Prop where
  O : Bk W bo 4 #[.bool true]
  E : Bk W be 4 #[.bool ended]
  S : Bk W bs 3 #[.int .i64 stop]
  L : ∃ v, Bk W bl 68 #[v] ∧ Lst W n₀ 3 1 v pre.length (iV pre)
  g : ended = false → stop < 1 ∨ (pre.length : Int) < stop
  x : ended = true → (pre.length : Int) = stop ∧ 0 < pre.length

set_option maxRecDepth 100000 in
set_option maxHeartbeats 1600000 in
theorem ints1 (n₀ bo be bl bs : Nat) (stop : Int) (pre : List Int) (x : Int) (W : World) (hI : Iw n₀ bo be bl bs stop false pre W) (hne : bo ≠ be) (hlen : pre.length < 1000000) (hn : n₀ ≤ W.heap.size) (hlt : bo < n₀ ∧ be < n₀ ∧ bl < n₀ ∧ bs < n₀) :
    Calls Tryz.prog 78 #[.int .i64 x, .pointer (some ⟨bo, 0, none⟩), .pointer (some ⟨be, 0, none⟩), .pointer (some ⟨bl, 0, none⟩), .pointer (some ⟨bs, 0, none⟩)] W
      (Usr n₀ [bo, be, bl] (Iw n₀ bo be bl bs stop false) (Iw n₀ bo be bl bs stop true) pre x W) := by
  obtain ⟨v, hB, hL⟩ := hI.L
  obtain ⟨A, cp, rfl, _, _⟩ := hL.look
  have co : W.cell? ⟨bo, 0, none⟩ = some (.bool true) := hI.O.cell 0
  have ce : W.cell? ⟨be, 0, none⟩ = some (.bool false) := hI.E.cell 0
  have cl : W.cell? ⟨bl, 0, none⟩ = some (.slice A pre.length cp) := hB.cell 0
  have cs : W.cell? ⟨bs, 0, none⟩ = some (.int .i64 stop) := hI.S.cell 0
  have fo := hI.O.free 0
  have fe := hI.E.free 0
  have fl := hB.free 0
  have n1 : bl ≠ bo := hB.ne hI.O (by decide)
  have n2 : bl ≠ be := hB.ne hI.E (by decide)
  have n3 : bs ≠ bo := hI.S.ne hI.O (by decide)
  have n4 : bs ≠ be := hI.S.ne hI.E (by decide)
  have n5 : bs ≠ bl := hI.S.ne hB (by decide)
  have n6 := n1.symm
  have n7 := n2.symm
  have n8 := n3.symm
  have n9 := n4.symm
  have n10 := n5.symm
  have n11 := hne.symm
  have HI := Lib.hid hI
  have HB := Lib.hid hB
  have HL := Lib.hid hL
  clear hI hB hL
  obtain ⟨i2, hi2, hz2, hs2, hb2⟩ := info_parts' int_info
  obtain ⟨z, hz⟩ : ∃ z, z = W.setCell ⟨bo, 0, none⟩ (.bool true) := ⟨_, rfl⟩
  have hsz : z.heap.size = W.heap.size := by rw [hz]; simp
  have hfz : Fr [bo] W z := by rw [hz]; exact (Fr.refl _ _).setCell (by simp) _
  have HIO : Hid (Bk z bo 4 #[.bool true]) := by rw [hz]; exact HI.out.O.put 0 (.bool true)
  have HIE : Hid (Bk z be 4 #[.bool false]) := HI.out.E.fr hfz (by simpa using n11)
  have HIS : Hid (Bk z bs 3 #[.int .i64 stop]) := HI.out.S.fr hfz (by simpa using n3)
  have HIB : Hid (Bk z bl 68 #[.slice A pre.length cp]) := HB.out.fr hfz (by simpa using n1)
  have HLz : Hid (Lst z n₀ 3 1 (.slice A pre.length cp) pre.length (iV pre)) := HL.out.fr hfz (fun k hk => by have := (HL.out.lt k hk).1; simp; omega)
  have HFZ : Hid (Fr [bo] W z) := hfz
  go_enter Tryz.func78, Tryz.ntmps78
  go_upto_region 2 with fail
  rw [← hz]
  have cl2 : z.cell? ⟨bl, 0, none⟩ = some (.slice A pre.length cp) := HIB.out.cell 0
  have cs2 : z.cell? ⟨bs, 0, none⟩ = some (.int .i64 stop) := HIS.out.cell 0
  have ce2 : z.cell? ⟨be, 0, none⟩ = some (.bool false) := HIE.out.cell 0
  have co2 : z.cell? ⟨bo, 0, none⟩ = some (.bool true) := HIO.out.cell 0
  have fo2 := HIO.out.free 0
  have fe2 := HIE.out.free 0
  have fl2 := HIB.out.free 0
  clear hz hfz co ce cl cs fo fe fl
  go_wp2_with (at_builtin; go_loud (refine wpList_append_lst _ rfl (.tmp 12) (.tmp 14) _ rfl n₀ 3 i2 _ 1 8 Tryz.underlying68 hi2 hz2 hs2 hb2 rfl _ pre.length (iV pre) rfl (HLz.out.alloc _) ⟨W.heap.size, 0, none⟩ 1 1 [.int .i64 x] rfl rfl (by rw [← hsz]; exact World.news_of_block (heap_alloc_new _ _)) ?c2 ?c3 ?c4 ?c5 ?c6))
  case c2 => simp [Value.oneCell']
  case c3 => unfold maxLen; omega
  case c4 => omega
  case c5 => first | omega | (simp; omega)
  case c6 =>
    intro v2 w7 hown hgrow hat
    have hlo := HLz.out.lt
    have hfr : Fr (Value.slice A pre.length cp).ownBlock.toList z w7 := ((Fr.refl _ _).alloc _).grown hgrow (fun j hj => .inl (by simp [hj]))
    have hnn : ∀ b, b < n₀ → b ∉ (Value.slice A pre.length cp).ownBlock.toList := fun b hb hx => by have := (hlo b (by simpa using hx)).1; omega
    have HO7 := Lib.hid (HIO.out.fr hfr (hnn _ hlt.1))
    have HE7 := Lib.hid (HIE.out.fr hfr (hnn _ hlt.2.1))
    have HB7 := Lib.hid (HIB.out.fr hfr (hnn _ hlt.2.2.1))
    have HS7 := Lib.hid (HIS.out.fr hfr (hnn _ hlt.2.2.2))
    have HK7 : Hid (Kb n₀ [bo, be, bl] W w7) := (HFZ.out.kb (by simp)).trans (hfr.kb (fun y hy => .inr (hlo y (by simpa using hy)).1))
    have HL7 : Hid (Lst w7 n₀ 3 1 v2 (pre.length + 1) (iV pre ++ [.int .i64 x])) := hown
    have k1 := HO7.out.cell 0
    have k2 := HE7.out.cell 0
    have k3 := HB7.out.cell 0
    have k4 := HS7.out.cell 0
    have j1 := HO7.out.free 0
    have j2 := HE7.out.free 0
    have j3 := HB7.out.free 0
    obtain ⟨A2, cap2, rfl, _, _⟩ := HL7.out.look
    clear hown hgrow hat hfr hnn hlo cl2 cs2 ce2 co2 fo2 fe2 fl2
    have fin : ∀ b : Bool, Hid (Iw n₀ bo be bl bs stop b (pre ++ [x]) ((w7.setCell ⟨bl, 0, none⟩ (.slice A2 (pre.length + 1) cap2)).setCell ⟨be, 0, none⟩ (.bool b)) ∨ ¬ (b = decide (((pre.length : Nat) : Int) + 1 = stop))) ∧
        Hid (Kb n₀ [bo, be, bl] W ((w7.setCell ⟨bl, 0, none⟩ (.slice A2 (pre.length + 1) cap2)).setCell ⟨be, 0, none⟩ (.bool b))) := by
      intro b
      have s1 : Fr [bl] w7 (w7.setCell ⟨bl, 0, none⟩ (.slice A2 (pre.length + 1) cap2)) := (Fr.refl _ _).setCell (by simp) _
      have s2 : Fr [be] (w7.setCell ⟨bl, 0, none⟩ (.slice A2 (pre.length + 1) cap2)) ((w7.setCell ⟨bl, 0, none⟩ (.slice A2 (pre.length + 1) cap2)).setCell ⟨be, 0, none⟩ (.bool b)) := (Fr.refl _ _).setCell (by simp) _
      refine ⟨?_, HK7.out.trans ((s1.kb (by simp)).trans (s2.kb (by simp)))⟩
      by_cases hb : b = decide (((pre.length : Nat) : Int) + 1 = stop)
      · refine .inl ⟨(HO7.out.fr s1 (by simpa using n6)).fr s2 (by simpa using hne), (HE7.out.fr s1 (by simpa using n7)).put 0 (.bool b), (HS7.out.fr s1 (by simpa using n5)).fr s2 (by simpa using n4), ⟨_, (HB7.out.put 0 (.slice A2 (pre.length + 1) cap2)).fr s2 (by simpa using n2), ?_⟩, ?_, ?_⟩
        · have := (HL7.out.fr s1 (fun k hk => by have := (HL7.out.lt k hk).1; simp; omega)).fr s2 (fun k hk => by have := (HL7.out.lt k hk).1; simp; omega)
          unfold iV at this ⊢
          rw [List.map_append, List.length_append]
          exact this
        · intro h
          rw [h] at hb
          have := of_decide_eq_false hb.symm
          have := HI.out.g rfl
          simp
          omega
        · intro h
          rw [h] at hb
          have := of_decide_eq_true hb.symm
          exact ⟨by simpa using this, by simp⟩
      · exact .inr hb
    obtain ⟨f1, f2⟩ := fin true
    obtain ⟨f3, f4⟩ := fin false
    clear fin
    by_cases hst : ((pre.length : Nat) : Int) + 1 = stop
    · have e1 : (((pre.length : Nat) : Int) + 1 == stop) = true := by simpa using hst
      go_wp2_with fail
      go_ret
      refine ⟨false, rfl, f2.out, fun h => (by cases h), fun _ => ?_⟩
      rcases f1.out with h | h
      · exact h
      · exact absurd (decide_eq_true hst).symm h
    · have e1 : (((pre.length : Nat) : Int) + 1 == stop) = false := by simpa using hst
      have e2 : ((pre.length : Nat) : Int) + 1 < 1048576 := by omega
      go_wp2_with fail
      go_ret
      refine ⟨true, rfl, f4.out, fun _ => ?_, fun h => (by cases h)⟩
      rcases f3.out with h | h
      · exact h
      · exact absurd (decide_eq_false hst).symm h
end Go.Proofs.YtdjaalkbpdmdgaaGreat
