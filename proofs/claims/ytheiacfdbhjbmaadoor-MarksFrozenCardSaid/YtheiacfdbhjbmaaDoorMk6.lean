/-
  Marks: a copy of the numbers; a slide that is being made.
-/
import Derived.Test.YtheiacfdbhjbmaaDoorMk5
import Derived.Deep.AppendLies
import Derived.Deep.RegionLaw
import Derived.WalkSpells
namespace Go.Proofs.YtheiacfdbhjbmaaDoor
open Go.RowKit Mk
set_option linter.unusedVariables false

def CloneOk (m : Nat) (cs : Array Value) (w : World) (e : Ending) (w' : World) : Prop :=
  ∃ b cap cs', e = .returned (.slice (some ⟨b, 0, none⟩) m cap) ∧ w.heap.size ≤ b ∧ m ≤ cap ∧ cap ≤ maxLen ∧ Bk w' b 58 cs' ∧ m ≤ cs'.size ∧ (∀ i, i < m → cs'[i]? = cs[i]?) ∧ Fr [] w w'

theorem own_form {w : World} {base : Nat} {v : Value} {m : Nat} {xs : List Value} {t : TypeId} (h : w.ownsRow base t 1 v m xs) (hn : v ≠ .slice none 0 0) :
    ∃ b cap cs', v = .slice (some ⟨b, 0, none⟩) m cap ∧ base ≤ b ∧ m ≤ cap ∧ cap ≤ maxLen ∧ Bk w b t cs' ∧ m ≤ cs'.size ∧ (∀ i, i < m → cs'[i]? = xs[i]?) := by
  rcases h.2 with ⟨h1, _⟩ | ⟨g, cap, cur, hv, hb, hg, hnc, hcm, hsz, ht⟩
  · exact absurd h1 hn
  · refine ⟨g, cap, cur, hv, hb, hnc, hcm, hg, by omega, fun i hi => ?_⟩
    rw [← ht, List.getElem?_take, if_pos (by omega)]
    simp

set_option maxHeartbeats 800000 in
theorem clone_any (gb m : Nat) (cs : Array Value) (w : World) (hb : Bk w gb 58 cs) (hm : cs.size = m) (hml : m ≤ 65536) (h1 : ∀ u ∈ cs.toList, u.oneCell' = true) :
    Calls Tryd.prog 33 #[.slice (some ⟨gb, 0, none⟩) m m] w (CloneOk m cs w) := by
  have hq := fun W : World => Lib.run_eql_slice_nil (P := Tryd.prog) W 54 58 (some ⟨gb, 0, none⟩) m m 0 0 Tryd.underlying54
  obtain ⟨i1, hi1, hz1, hs1, hb1⟩ := info_parts u64_info
  have HB := Lib.hid hb
  have HM := Lib.hid hm
  have H1 := Lib.hid h1
  clear hb hm h1
  go_enter Tryd.func33, Tryd.ntmps33
  go_wp2_with (at_builtin; refine wpList_append_own_at _ rfl (.tmp 5) (.tmp 6) _ rfl w.heap.size 58 i1 (.int .u64 0) 1 8 Tryd.underlying54 hi1 hz1 hs1 hb1 rfl (by decide) (.slice (some ⟨w.heap.size, 0, none⟩) 0 0) 0 [] rfl (World.ownsRow_made w #[] 0 (Nat.le_refl _) (by unfold maxLen; omega) rfl) ⟨gb, 0, none⟩ m m cs.toList rfl (by simpa using HM.out) (World.news_of_block (HB.out.alloc _)) H1.out ?c1 ?c2 ?c3 ?c4)
  case c1 => unfold maxLen; omega
  case c2 => omega
  case c3 => simp
  case c4 =>
    intro v' w' hown hgrow hnil hat
    have HO := Lib.hid hown
    have HG := Lib.hid hgrow
    have HN : Hid (v' ≠ .slice none 0 0) := fun e => by simp [e] at hnil
    clear hown hgrow hnil hat
    go_wp2_with fail
    go_ret
    obtain ⟨b, cap, cs', rfl, k1, k2, k3, k4, k5, k6⟩ := own_form (by simpa using HO.out) HN.out
    exact ⟨b, cap, cs', rfl, k1, k2, k3, k4, k5, fun i hi => by rw [k6 i hi]; simp, ((Fr.refl [] w).alloc _).grown HG.out (fun k hk => .inr (by have : w.heap.size = k := (by simpa [Value.ownBlock] using hk); omega))⟩

/-- Up to the k-th number the one, from there on the other. -/
def mix (f0 f1 : Nat → Bool) (k : Nat) : Nat → Bool := fun j => if j < 64 * k then f1 j else f0 j
theorem wd_mix_at {f0 f1 : Nat → Bool} {k x : Nat} (h : Wd (mix f0 f1 k) k x) : Wd f0 k x :=
  ⟨h.lt, fun j hj => by rw [h.bit j hj]; unfold mix; rw [if_neg (by omega)]⟩
theorem wd_mix_to {f0 f1 : Nat → Bool} {k x : Nat} (h : Wd f1 k x) : Wd (mix f0 f1 (k + 1)) k x :=
  ⟨h.lt, fun j hj => by rw [h.bit j hj]; unfold mix; rw [if_pos (by omega)]⟩
theorem wd_mix_far {f0 f1 : Nat → Bool} {k i x : Nat} (h : Wd (mix f0 f1 k) i x) (hne : i ≠ k) : Wd (mix f0 f1 (k + 1)) i x :=
  ⟨h.lt, fun j hj => by
    rw [h.bit j hj]
    unfold mix
    by_cases hik : i < k
    · rw [if_pos (by omega), if_pos (by omega)]
    · rw [if_neg (by omega), if_neg (by omega)]⟩
theorem mix_zero (f0 f1 : Nat → Bool) : mix f0 f1 0 = f0 := by funext j; simp [mix]

def sums (f : Nat → Bool) (k : Nat) : List Value := (List.range k).map fun i => .int .i64 ((cnt f 0 (64 * i) : Nat) : Int)
theorem sums_succ (f : Nat → Bool) (k : Nat) : sums f (k + 1) = sums f k ++ [.int .i64 ((cnt f 0 (64 * k) : Nat) : Int)] := by
  simp [sums, List.range_succ]

/-- A slide of which k numbers are made. -/
structure SlideAt (W0 w : World) (gs bs : Nat) (from_ behind base m cap : Nat) (f0 : Nat → Bool) (k : Nat) : Prop where
  B : ∃ sv, Bk w gs 60 #[.int .i64 from_, .int .i64 behind, .int .i64 base, .slice (some ⟨bs, 0, none⟩) m cap, sv, .int .i64 ((cnt (cutF f0 from_ behind) 0 (64 * k) : Nat) : Int)] ∧ w.ownsRow W0.heap.size 3 1 sv k (sums (cutF f0 from_ behind) k)
  W : ∃ cs, Bk w bs 58 cs ∧ m ≤ cs.size
  V : ∀ i, i < m → ∃ x, w.cell? ⟨bs, i, none⟩ = some (.int .u64 (x : Nat)) ∧ Wd (mix f0 (cutF f0 from_ behind) k) i x
  F : Fr [] W0 w
  n1 : W0.heap.size ≤ gs
  n2 : W0.heap.size ≤ bs
end Go.Proofs.YtheiacfdbhjbmaaDoor
