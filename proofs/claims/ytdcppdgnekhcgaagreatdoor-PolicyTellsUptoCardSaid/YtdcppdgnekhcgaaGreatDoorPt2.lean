/-
  Policy: the walk of told.
-/
import Derived.Test.YtdcppdgnekhcgaaGreatDoorPt1
import Derived.Deep.RegionWith
namespace Go.Proofs.YtdcppdgnekhcgaaGreatDoor
open Go.RowKit Pol
set_option maxRecDepth 100000
set_option linter.unusedVariables false

/-- What told leaves: the book, with some lists more. -/
def TellOk (w0 : World) (gb K : Nat) (w : World) : Prop := ∃ S XW K', S.g = gb ∧ S.deep = 0 ∧ K' ≤ K ∧ BLk S [] XW [] K' 16 ∧ Sg w0 (bkT w0.heap.size S) w

set_option maxHeartbeats 4000000 in
theorem told_any {w0 w : World} {gb K : Nat} {S : BS} {XW : List (Value × List Int)} (mark : Int) (c1 : Nat → Int) (b1 k1 w1 : Int) (A1 : Option Addr) (n1 d1 : Nat) (l1 : List Vw)
    (hg : S.g = gb) (hd : S.deep = 0) (hl : BLk S [] XW [] K 16) (hs : Sg w0 (bkT w0.heap.size S) w) (hn1 : n1 = l1.length) (hr1 : RdVw w0 A1 l1) (hw1 : w1 ≤ 9223372036854775807) (hK : K + 4 * l1.length ≤ 1000000000000) :
    Calls Tryz.prog 6 #[.agg (askA c1 b1 k1 w1 (.slice A1 n1 d1)), .pointer (some ⟨gb, 0, none⟩), .int .i64 mark] w fun e w' => e = .returned (.bool true) ∧ TellOk w0 gb (K + 4 * l1.length) w' := by
  have HR1 := Lib.hid hr1
  subst hn1
  have hb1 := hr1.1
  clear hr1
  obtain ⟨a, ha⟩ : ∃ a, w.heap.size = a := ⟨_, rfl⟩
  obtain ⟨ask, hask⟩ : ∃ ask, ask = askA c1 b1 k1 w1 (.slice A1 l1.length d1) := ⟨_, rfl⟩
  have HASK := Lib.hid hask
  go_enter Tryz.func6, Tryz.ntmps6
  go_upto_region 1 with fail
  have hS1 : Sg w0 (bkT w0.heap.size S ++ [thBox w0.heap.size w.heap.size 26 (askA c1 b1 k1 w1 (.slice A1 l1.length d1))]) (w.alloc (.cells (askA c1 b1 k1 w1 (.slice A1 l1.length d1)) 26)) := hs.box _ _
  obtain ⟨z1, hz1⟩ : ∃ z1, z1 = w.alloc (.cells (askA c1 b1 k1 w1 (.slice A1 l1.length d1)) 26) := ⟨_, rfl⟩
  rw [← hz1] at hS1 ⊢
  rw [ha] at hS1
  try rw [ha]
  rw [← hask] at hS1
  have HS1 := Lib.hid hS1
  have HA1 : Hid (Bk z1 a 26 (askA c1 b1 k1 w1 (.slice A1 l1.length d1))) := by
    rw [← HASK.out]
    exact (hS1.ok 11 (thBox w0.heap.size a 26 ask) rfl).1
  clear hS1 hz1 hs ha hask
  obtain ⟨x14, x15, x16, x17⟩ := ask_cells HA1.out
  go_wp2_with (refine wpList_load_mid rfl 23 _ rfl a 0 rfl (cfgA c1).toList _ (ask_range HA1.out) Tryz.underlying23 rfl (by kernel_rfl) ?_)
  refine (begin_any c1 b1 k1 w1 _ hw1).mono ?_
  rintro e z4 ⟨ps, rfl, hf, hps⟩
  have HSs := Lib.hid hps
  have HA1 := Lib.hid (HA1.out.fr hf (by simp))
  have HG4 : Hid (Fr [] z1 z4) := hf
  clear hps hf x14 x15 x16 x17
  obtain ⟨x14, x15, x16, x17⟩ := ask_cells HA1.out
  go_wp2_with (refine wpList_load_mid rfl 23 _ rfl a 0 rfl (cfgA c1).toList _ (ask_range HA1.out) Tryz.underlying23 rfl (by kernel_rfl) ?_)
  refine (rbegin_any c1 b1 k1 w1 _ hw1).mono ?_
  rintro e z5 ⟨pv, rfl, hf, hpv⟩
  have HSv := Lib.hid hpv
  have HA1 := Lib.hid (HA1.out.fr hf (by simp))
  have HG5 : Hid (Fr [] z4 z5) := hf
  clear hpv hf x14 x15 x16 x17
  go_upto_region 3 with fail
  obtain ⟨e1, he1⟩ : ∃ e1, beginErr c1 b1 k1 w1 = e1 := ⟨_, rfl⟩
  rw [he1] at HSs HSv ⊢
  have HE1 := Lib.hid he1
  clear he1
  rcases HSs.out with ⟨h1, rfl⟩ | ⟨h1, g, rfl, hg1, hP1⟩
  · rcases HSv.out with ⟨_, rfl⟩ | ⟨h3, _⟩
    · clear h1 HSs HSv
      have HX : Hid (TellOk w0 gb (K + 4 * l1.length) z5) := ⟨S, XW, K, hg, hd, by omega, hl, (HS1.out.nil (HG4.out.trans HG5.out (by simp))).left⟩
      clear hl hg hd
      go_wp2_with fail
      go_loopw [11] (fun i wr => i = .int .i64 0 ∧ z5 = wr) (fun _ _ => 0)
      case atStart => exact ⟨rfl, rfl⟩
      case round =>
        obtain ⟨rfl, rfl⟩ := hrel
        go_wp2_with fail
        go_ret
        exact ⟨rfl, HX.out⟩
    · exact absurd h3 h1
  rcases HSv.out with ⟨h3, _⟩ | ⟨-, h, rfl, hg3, hR3⟩
  · exact absurd h1 h3
  have hTel : Tel w0 gb a g h ask c1 b1 k1 w1 K S XW (st0 (phOf c1 k1 w1)) [] (.slice none 0 0) (st0 (phOf c1 k1 w1)) [] false false (.slice none 0 0) [] z5 := by
    have t1 := (HS1.out.push (t := thPT w0.heap.size g c1 b1 (limitOf c1 b1) w1 (st0 (phOf c1 k1 w1)) [] (.slice none 0 0)) HG4.out ⟨hP1, fun x hx => by
      have hx : x = g := by simpa [Value.ownBlock] using hx
      have := HS1.out.fr.size
      omega⟩ (fun x hx => by
      have hx : x = g := by simpa [Value.ownBlock, thPT, thOb] using hx
      omega))
    have t2 := (t1.push (t := thRT w0.heap.size h c1 k1 w1 b1 (limitOf c1 b1) (st0 (phOf c1 k1 w1)) [] false false (.slice none 0 0)) HG5.out ⟨hR3, fun x hx => by
      have hx : x = h := by simpa [Value.ownBlock] using hx
      have := t1.fr.size
      omega⟩ (fun x hx => by
      have hx : x = h := by simpa [Value.ownBlock, thRT, thOb] using hx
      omega))
    exact ⟨hg, hd, hl, t2⟩
  have HT := Lib.hid hTel
  clear hTel h1 hg1 hP1 hg3 hR3 HSs HSv HS1 HA1 HG4 HG5 HE1 hl hg hd
  go_wp2_with fail
  go_loopw [11] (fun i wr => ∃ k : Nat, k ≤ l1.length ∧ i = .int .i64 k ∧ Hid (∃ S XW s l cyc cl ov rv, Tel w0 gb a g h ask c1 b1 k1 w1 (K + 4 * k) S XW s l cyc s l cl ov rv [] wr)) (fun i _ => l1.length - (intOf i).toNat)
  case atStart => exact ⟨0, by omega, rfl, _, _, _, _, _, _, _, _, HT.out⟩
  case round =>
    obtain ⟨k, hk1, rfl, hx⟩ := hrel
    obtain ⟨S2, XW2, s, l, cyc, cl, ov, rv, hT⟩ := hx.out
    have HY := Lib.hid hT
    clear hT hx HT
    have x17 : wr.cell? ⟨a, 17, none⟩ = some (.slice A1 l1.length d1) := by
      have := HY.out.box
      rw [HASK.out] at this
      exact this.cell 17
    have i0 : (0 : Int) ≤ (k : Int) := by omega
    by_cases hlt1 : k < l1.length
    · have i1 : (k : Int) < (l1.length : Int) := by omega
      obtain ⟨v1, hv1⟩ : ∃ v, l1[k]? = some v := ⟨_, List.getElem?_eq_getElem hlt1⟩
      obtain ⟨bb1, oo1, hA1, -, hc1⟩ := HR1.out.2 (by omega)
      subst hA1
      have HC1 : Hid (∀ {W : World}, Fr [] w0 W → W.cell? ⟨bb1, oo1 + k * 4, none⟩ = some (.int .i64 v1.eden) ∧ W.cell? ⟨bb1, oo1 + k * 4 + 1, none⟩ = some (.int .i64 v1.young) ∧ W.cell? ⟨bb1, oo1 + k * 4 + 2, none⟩ = some (.int .i64 v1.ten) ∧ W.cell? ⟨bb1, oo1 + k * 4 + 3, none⟩ = some (.int .i64 v1.room)) := fun {W} hf => by
        obtain ⟨b', o', he, -, hc⟩ := (HR1.out.fr hf).2 (by omega)
        injection he with he
        injection he with h1 h2
        subst h1 h2
        exact hc k v1 hv1
      clear hc1 hv1
      obtain ⟨a0, a1, a2, a3⟩ := HC1.out HY.out.sg.fr
      go_upto_region 9 with fail
      have hTv : Tel w0 gb a g h ask c1 b1 k1 w1 (K + 4 * k) S2 XW2 s l cyc s l cl ov rv [thBox w0.heap.size wr.heap.size 67 #[.int .i64 v1.eden, .int .i64 v1.young, .int .i64 v1.ten, .int .i64 v1.room]] (wr.alloc (.cells #[.int .i64 v1.eden, .int .i64 v1.young, .int .i64 v1.ten, .int .i64 v1.room] 67)) :=
        HY.out.push ((Fr.refl _ _).alloc _) ⟨Bk.new _ _ _, HY.out.sg.fr.size⟩ (fun x hx => by
          obtain rfl : x = wr.heap.size := by simpa [thBox] using hx
          exact Nat.le_refl _)
      obtain ⟨z, hz⟩ : ∃ z, z = wr.alloc (.cells #[.int .i64 v1.eden, .int .i64 v1.young, .int .i64 v1.ten, .int .i64 v1.room] 67) := ⟨_, rfl⟩
      obtain ⟨av, hav⟩ : ∃ av, av = wr.heap.size := ⟨_, rfl⟩
      rw [← hz] at hTv ⊢
      rw [← hav] at hTv ⊢
      have HTv := Lib.hid hTv
      have HBV : Hid (Bk z av 67 #[.int .i64 v1.eden, .int .i64 v1.young, .int .i64 v1.ten, .int .i64 v1.room]) := (hTv.sg.ok 14 (thBox w0.heap.size av 67 #[.int .i64 v1.eden, .int .i64 v1.young, .int .i64 v1.ten, .int .i64 v1.room]) rfl).1
      clear hTv hz hav a0 a1 a2 a3 x17 HY
      go_wp2_with (refine wpList_load_row rfl 67 _ rfl av rfl 67 #[.int .i64 v1.eden, .int .i64 v1.young, .int .i64 v1.ten, .int .i64 v1.room] (0, 0) _ HBV.out Tryz.underlying67 rfl (by kernel_rfl) ?_)
      obtain ⟨m1, hm1⟩ : ∃ m, (stepOf w1 (limitOf c1 b1) s (clipV v1)).1 = m := ⟨_, rfl⟩
      have HM1 := Lib.hid hm1
      clear hm1
      refine (next_any g c1 b1 (limitOf c1 b1) w1 s l cyc v1 _ HTv.out.p).mono ?_
      rintro e z2 ⟨cyc2, rfl, hp, hown, hf⟩
      rw [HM1.out] at hp ⊢
      have HT2 := Lib.hid (HTv.out.stepP hp hown hf)
      clear hp hown hf HBV HTv
      obtain ⟨s9, hs9⟩ : ∃ s9, after w1 (limitOf c1 b1) s (clipV v1) = s9 := ⟨_, rfl⟩
      obtain ⟨l9, hl9⟩ : ∃ l9, l ++ cycleOf m1 = l9 := ⟨_, rfl⟩
      obtain ⟨bo, hbo⟩ : ∃ bo, baseOf s9 b1 v1 = bo := ⟨_, rfl⟩
      rw [hs9, hl9] at HT2
      obtain ⟨VW, hVW⟩ : ∃ VW : Array Value, VW = #[.int .i64 v1.eden, .int .i64 v1.young, .int .i64 v1.ten, .int .i64 v1.room] := ⟨_, rfl⟩
      obtain ⟨Rel, hRel⟩ : ∃ Rel : World → Prop, Rel = fun W => ∃ cl ov rv, Tel w0 gb a g h ask c1 b1 k1 w1 (K + 4 * k) S2 XW2 s9 l9 cyc2 s9 l9 cl ov rv [thBox w0.heap.size av 67 #[.int .i64 v1.eden, .int .i64 v1.young, .int .i64 v1.ten, .int .i64 v1.room]] W := ⟨_, rfl⟩
      obtain ⟨Cel, hCel⟩ : ∃ Cel : World → Prop, Cel = fun W => W.cell? ⟨av, 0, none⟩ = some (.int .i64 v1.eden) ∧ W.cell? ⟨av, 1, none⟩ = some (.int .i64 v1.young) ∧ W.cell? ⟨av, 2, none⟩ = some (.int .i64 v1.ten) ∧ W.cell? ⟨av, 3, none⟩ = some (.int .i64 v1.room) := ⟨_, rfl⟩
      have hce : ∀ {s l cyc s2 l2 cl ov rv} {W : World}, Tel w0 gb a g h ask c1 b1 k1 w1 (K + 4 * k) S2 XW2 s l cyc s2 l2 cl ov rv [thBox w0.heap.size av 67 #[.int .i64 v1.eden, .int .i64 v1.young, .int .i64 v1.ten, .int .i64 v1.room]] W → Cel W := fun {_ _ _ _ _ _ _ _} {W} hT => by
        have hb : Bk W av 67 #[.int .i64 v1.eden, .int .i64 v1.young, .int .i64 v1.ten, .int .i64 v1.room] := (hT.sg.ok 14 (thBox w0.heap.size av 67 #[.int .i64 v1.eden, .int .i64 v1.young, .int .i64 v1.ten, .int .i64 v1.room]) rfl).1
        rw [hCel]
        exact ⟨hb.cell 0, hb.cell 1, hb.cell 2, hb.cell 3⟩
      have HN : Hid (∀ Z, Fr [] z2 Z → Calls Tryz.prog 25 #[.pointer (some ⟨h, 0, none⟩), .agg #[.int .i64 v1.eden, .int .i64 v1.young, .int .i64 v1.ten, .int .i64 v1.room]] Z fun e z' => e = .returned (.int .i64 m1) ∧ Hid (Cel z') ∧ Hid (Rel z')) := fun Z hZ => by
        have hT := HT2.out.quiet hZ
        refine (rnext_any h c1 k1 w1 b1 (limitOf c1 b1) s l cl ov rv v1 Z hT.r).mono ?_
        rintro e z' ⟨cl', ov', rv', rfl, hp, hown, hf⟩
        rw [HM1.out, hs9, hl9] at hp
        rw [HM1.out]
        have hT3 := hT.stepR hp hown hf
        exact ⟨rfl, hce hT3, by show Rel z'; rw [hRel]; exact ⟨_, _, _, hT3⟩⟩
      have HB : Hid (∀ Z, Hid (Rel Z) → Calls Tryz.prog 26 #[.pointer (some ⟨g, 0, none⟩), .agg #[.int .i64 v1.eden, .int .i64 v1.young, .int .i64 v1.ten, .int .i64 v1.room]] Z fun e z' => e = .returned (.int .i64 bo) ∧ Hid (Cel z') ∧ Hid (Rel z')) := fun Z hZ => by
        have hZ : Rel Z := hZ
        rw [hRel] at hZ
        obtain ⟨_, _, _, hT⟩ := hZ
        refine (base_any g c1 b1 (limitOf c1 b1) w1 s9 l9 cyc2 v1 Z hT.p).mono ?_
        rintro e z' ⟨rfl, hf⟩
        rw [hbo]
        exact ⟨rfl, hce (hT.quiet hf), by show Rel z'; rw [hRel]; exact ⟨_, _, _, hT.quiet hf⟩⟩
      have HRB : Hid (∀ Z, Hid (Rel Z) → Calls Tryz.prog 27 #[.pointer (some ⟨h, 0, none⟩), .agg #[.int .i64 v1.eden, .int .i64 v1.young, .int .i64 v1.ten, .int .i64 v1.room]] Z fun e z' => e = .returned (.int .i64 bo) ∧ Hid (Cel z') ∧ Hid (Rel z')) := fun Z hZ => by
        have hZ : Rel Z := hZ
        rw [hRel] at hZ
        obtain ⟨_, _, _, hT⟩ := hZ
        refine (rbase_any h c1 k1 w1 b1 (limitOf c1 b1) s9 l9 _ _ _ v1 Z hT.r).mono ?_
        rintro e z' ⟨rfl, hf⟩
        rw [hbo]
        exact ⟨rfl, hce (hT.quiet hf), by show Rel z'; rw [hRel]; exact ⟨_, _, _, hT.quiet hf⟩⟩
      have HC2 : Hid (Cel z2) := hce HT2.out
      have HRel := Lib.hid hRel
      have HCel : Hid (∀ W, Cel W → W.cell? ⟨av, 0, none⟩ = some (.int .i64 v1.eden) ∧ W.cell? ⟨av, 1, none⟩ = some (.int .i64 v1.young) ∧ W.cell? ⟨av, 2, none⟩ = some (.int .i64 v1.ten) ∧ W.cell? ⟨av, 3, none⟩ = some (.int .i64 v1.room)) := fun W hW => by rw [hCel] at hW; exact hW
      clear hce hRel hCel hVW
      have hmm : (m1 != m1) = false := by simp
      have hbb : (bo != bo) = false := by simp
      clear hs9 hl9 hbo
      go_upto_region 10 with fail
      go_cut [82] from 50 to 111 (fun u wx => u = .bool false ∧ Hid (Rel wx))
      case first =>
        obtain ⟨y0, y1, y2, y3⟩ := HCel.out _ HC2.out
        go_region_with (first
          | (go_at_call 25; refine (HN.out _ (by first | exact Fr.refl _ _ | exact (Fr.refl _ _).drew)).mono ?_; rintro en z3 ⟨rfl, hc3, hr3⟩; obtain ⟨f0, f1, f2, f3⟩ := HCel.out _ hc3.out)
          | (go_at_call 26; refine (HB.out _ (by assumption)).mono ?_; rintro en z4 ⟨rfl, hc4, hr4⟩; obtain ⟨q0, q1, q2, q3⟩ := HCel.out _ hc4.out)
          | (go_at_call 27; refine (HRB.out _ (by assumption)).mono ?_; rintro en z5 ⟨rfl, hc5, hr5⟩; obtain ⟨r0, r1, r2, r3⟩ := HCel.out _ hc5.out))
        all_goals
          try go_wp2_with fail
          go_meet
          case rel => exact ⟨by first | rfl | simp, by assumption⟩
      obtain ⟨rfl, hrel10⟩ := hcut
      have hR10 : Rel wc := hrel10
      rw [HRel.out] at hR10
      obtain ⟨cl9, ov9, rv9, hT10⟩ := hR10
      have HT10 := Lib.hid hT10
      clear hT10 hrel10 HN HB HRB HC2 HCel HRel HT2 HM1 hmm hbb
      go_wp2_with fail
      go_loopw [14] (fun i wr2 => ∃ j : Nat, j ≤ 2 ∧ i = .int .i64 j ∧ Hid (∃ S XW, Tel w0 gb a g h ask c1 b1 k1 w1 (K + 4 * k + 2 * j) S XW s9 l9 cyc2 s9 l9 cl9 ov9 rv9 [thBox w0.heap.size av 67 #[.int .i64 v1.eden, .int .i64 v1.young, .int .i64 v1.ten, .int .i64 v1.room]] wr2)) (fun i _ => 2 - (intOf i).toNat)
      case atStart => exact ⟨0, by omega, rfl, _, _, HT10.out⟩
      case round =>
        obtain ⟨j, hj, rfl, hx⟩ := hrel
        obtain ⟨S3, XW3, hT⟩ := hx.out
        have HZ := Lib.hid hT
        clear hT hx HT10
        by_cases hj2 : j < 2
        · go_wp2_with fail
          refine (HZ.out.cycles).mono ?_
          rintro e z5 ⟨A5, q5, rfl, hR, hA⟩
          have HR5 := Lib.hid hR
          have HZ5 := Lib.hid hA
          clear hR hA
          go_wp2_with fail
          refine (rcycles_any h c1 k1 w1 b1 (limitOf c1 b1) s9 l9 cl9 ov9 rv9 _ HZ5.out.r).mono ?_
          rintro e z6 ⟨v6, rfl, hown, hf⟩
          obtain ⟨A6, q6, rfl, hr⟩ := listed_rd hown
          have HR6 := Lib.hid hr
          have HR56 := Lib.hid (HR5.out.fr hf (by simp))
          have HZ6 := Lib.hid (HZ5.out.quiet hf)
          clear hown hr hf
          go_wp2_with fail
          refine (same_yes A5 A6 l9 _ q5 q6 _ rfl HR56.out HR6.out).mono ?_
          rintro e z7 ⟨rfl, hf⟩
          have HZ7 := Lib.hid (HZ6.out.quiet hf)
          clear hf
          go_wp2_with fail
          refine (HZ7.out.hold).mono ?_
          rintro e z8 ⟨rfl, hf⟩
          have HZ8 := Lib.hid (HZ7.out.quiet hf)
          clear hf
          go_wp2_with fail
          refine (Tel.ints (j := 0) (Us := [thBox w0.heap.size av 67 #[.int .i64 v1.eden, .int .i64 v1.young, .int .i64 v1.ten, .int .i64 v1.room]]) _ HZ8.out (by omega)).mono ?_
          rintro e z9 ⟨rfl, S9, XW9, hA⟩
          have HZ9 := Lib.hid hA
          clear hA
          go_wp2_with fail
          go_roundw
          case rel => exact ⟨j + 1, by omega, by go_num, _, _, HZ9.out⟩
          case measure => simp [intOf]; omega
        · obtain rfl : j = 2 := by omega
          go_wp2_with fail
          refine (HZ.out.hold).mono ?_
          rintro e z8 ⟨rfl, hf⟩
          have hX := (HZ.out.quiet hf).drop (Us := [])
          rw [show K + 4 * k + 2 * 2 = K + 4 * (k + 1) from by omega] at hX
          have HX := Lib.hid hX
          clear hf hX
          go_wp2_with fail
          go_roundw
          case rel => exact ⟨k + 1, by omega, by go_num, _, _, _, _, _, _, _, _, HX.out⟩
          case measure => simp [intOf]; omega
    · have i2 : ¬ ((k : Int) < (l1.length : Int)) := by omega
      obtain rfl : l1.length = k := by omega
      have HX : Hid (TellOk w0 gb (K + 4 * l1.length) wr) := ⟨S2, XW2, _, HY.out.eg, HY.out.ed, Nat.le_refl _, HY.out.bl, Sg.left HY.out.sg⟩
      go_wp2_with fail
      go_ret
      exact ⟨rfl, HX.out⟩
end Go.Proofs.YtdcppdgnekhcgaaGreatDoor
