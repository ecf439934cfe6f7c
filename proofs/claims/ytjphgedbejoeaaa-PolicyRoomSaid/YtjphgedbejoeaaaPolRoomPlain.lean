/-
  An allocation that fits does not fail, and the limit holds at the end: the plain law.
-/
import Derived.Test.YtjphgedbejoeaaaPolEndsPlain
namespace Go.Proofs.Ytjphgedbejoeaaa.Pol
set_option linter.unusedVariables false

/-- Where the words lie. -/
structure Wd where
  el : Int
  ed : Int
  fl : Int
  fd : Int
  ol : Int
  od : Int

def pct (p : Int) : Int := if p < 0 then 0 else if 100 < p then 100 else p
def partI (n p : Int) : Int := n * pct p / 100

theorem pct_bound (p : Int) : 0 ≤ pct p ∧ pct p ≤ 100 := by unfold pct; split <;> (try split) <;> omega
theorem part_bound {n : Int} (p : Int) (h : 0 ≤ n) : 0 ≤ partI n p ∧ partI n p ≤ n := by
  unfold partI
  obtain ⟨h1, h2⟩ := pct_bound p
  generalize pct p = q at *
  have h3 : 0 ≤ n * q := Int.mul_nonneg h h1
  have h4 : n * q ≤ n * 100 := Int.mul_le_mul_of_nonneg_left h2 h
  omega
theorem part_zero (p : Int) : partI 0 p = 0 := by simp [partI]

def viewW (E T : Int) (x : Wd) : Vw := ⟨E - x.el - x.ed, x.el + x.ed + x.fl + x.fd, x.ol + x.od, T - x.ol - x.od⟩

def minorW (S : Int) (all : Bool) (sv pr : Int) (x : Wd) : Wd :=
  let live := x.el + x.fl
  let dead := partI (x.ed + x.fd) sv
  let up0 := partI live pr
  let up := if all = true ∨ S < live + dead - up0 then live else up0
  let b : Bool := decide (all = true ∨ S < live - up + dead)
  ⟨0, 0, live - up, if b then 0 else dead, x.ol + up, if b then x.od + dead else x.od⟩

def moveW (S words sv pr : Int) (x : Wd) (n : Int) : Wd :=
  if n = 1 then { x with el := x.el + words } else if n = 2 then { x with ol := x.ol + words } else if n = 3 then minorW S false sv pr x else if n = 4 then minorW S true sv pr x
  else if n = 5 then { x with ed := 0, fd := 0, od := 0 } else x

/-- The words lie within their spaces. -/
structure WOk (E T : Int) (x : Wd) : Prop where
  el : 0 ≤ x.el
  ed : 0 ≤ x.ed
  fl : 0 ≤ x.fl
  fd : 0 ≤ x.fd
  ol : 0 ≤ x.ol
  od : 0 ≤ x.od
  e : x.el + x.ed ≤ E
  f : x.fl + x.fd ≤ T
  t : x.ol + x.od ≤ T

/-- What holds of the memory as long as the turn has not ended. -/
structure RInv (E T words L0 : Int) (s : St) (x : Wd) : Prop where
  ok : WOk E T x
  live : (s.ph = .small ∨ s.ph = .big) → x.el + x.fl + x.ol = L0
  clean : (s.ph = .small ∨ s.ph = .big) → s.ma = true → x.ed = 0 ∧ x.fd = 0 ∧ x.od = 0
  empty : (s.ph = .small ∨ s.ph = .big) → (s.mi = true ∨ s.al = true) → x.el = 0 ∧ x.ed = 0

theorem minor_spec {E T S sv pr : Int} {all : Bool} {x : Wd} (h : WOk E T x) (hs : x.el + x.ed + x.fl + x.fd ≤ T - x.ol - x.od) (hE : 0 ≤ E) :
    WOk E T (minorW S all sv pr x) ∧ (minorW S all sv pr x).el = 0 ∧ (minorW S all sv pr x).ed = 0 ∧ (minorW S all sv pr x).el + (minorW S all sv pr x).fl + (minorW S all sv pr x).ol = x.el + x.fl + x.ol ∧
    (x.ed = 0 ∧ x.fd = 0 ∧ x.od = 0 → (minorW S all sv pr x).fd = 0 ∧ (minorW S all sv pr x).od = 0) := by
  obtain ⟨h1, h2, h3, h4, h5, h6, h7, h8, h9⟩ := h
  have hd := part_bound sv (show 0 ≤ x.ed + x.fd by omega)
  have hu := part_bound pr (show 0 ≤ x.el + x.fl by omega)
  have hz : x.ed = 0 ∧ x.fd = 0 ∧ x.od = 0 → partI (x.ed + x.fd) sv = 0 := by
    rintro ⟨a, b, _⟩
    rw [a, b]
    exact part_zero sv
  simp only [minorW]
  generalize partI (x.ed + x.fd) sv = dead at *
  generalize partI (x.el + x.fl) pr = up0 at *
  obtain ⟨up, hup⟩ : ∃ up, (if all = true ∨ S < x.el + x.fl + dead - up0 then x.el + x.fl else up0) = up := ⟨_, rfl⟩
  have hup' : 0 ≤ up ∧ up ≤ x.el + x.fl := by rw [← hup]; split <;> omega
  rw [hup]
  clear hup
  obtain ⟨b, hb⟩ : ∃ b, decide (all = true ∨ S < x.el + x.fl - up + dead) = b := ⟨_, rfl⟩
  rw [hb]
  clear hb
  have key : ∀ fd' od', ((fd' = dead ∧ od' = x.od) ∨ (fd' = 0 ∧ od' = x.od + dead)) → WOk E T ⟨0, 0, x.el + x.fl - up, fd', x.ol + up, od'⟩ ∧ (0 : Int) + (x.el + x.fl - up) + (x.ol + up) = x.el + x.fl + x.ol ∧ (x.ed = 0 ∧ x.fd = 0 ∧ x.od = 0 → fd' = 0 ∧ od' = 0) := by
    intro fd' od' hh
    refine ⟨⟨?_, ?_, ?_, ?_, ?_, ?_, ?_, ?_, ?_⟩, by omega, fun h0 => ?_⟩
    all_goals (try dsimp only)
    all_goals first | omega | (have := hz h0; have := h0.2.2; omega)
  cases b
  · obtain ⟨k1, k2, k3⟩ := key dead x.od (.inl ⟨rfl, rfl⟩)
    exact ⟨k1, trivial, trivial, k2, k3⟩
  · obtain ⟨k1, k2, k3⟩ := key 0 (x.od + dead) (.inr ⟨rfl, rfl⟩)
    exact ⟨k1, trivial, trivial, k2, k3⟩

/-- A step that is not the end keeps the memory in order; one that fails says that it does not fit. -/
theorem RInv.step {E T S words L0 limit sv pr : Int} {s : St} {l : List Int} {x : Wd} (hok : Ok s l) (hE : 0 ≤ E) (hw : 2 ≤ words) (hsm : s.ph = .small → words ≤ E) (hph : s.ph = .small ∨ s.ph = .big ∨ s.ph = .closing) (inv : RInv E T words L0 s x) :
    ((stepOf words limit s (viewW E T x)).1 ≠ 7 → RInv E T words L0 (after words limit s (viewW E T x)) (moveW S words sv pr x (stepOf words limit s (viewW E T x)).1) ∧
      ((after words limit s (viewW E T x)).ph = .small ∨ (after words limit s (viewW E T x)).ph = .big ∨ (after words limit s (viewW E T x)).ph = .closing)) ∧
    ((stepOf words limit s (viewW E T x)).1 = 6 → ¬ (words ≤ T - L0)) := by
  obtain ⟨iok, ilive, iclean, iempty⟩ := inv
  have iok' := iok
  obtain ⟨h1, h2, h3, h4, h5, h6, h7, h8, h9⟩ := iok'
  have ha : ∀ n ph', stepOf words limit s (viewW E T x) = (n, ph') → after words limit s (viewW E T x) = { ph := ph', mi := s.mi || decide (n = 3), al := s.al || decide (n = 4), ma := s.ma || decide (n = 5) } := by
    intro n ph' h
    unfold after
    rw [h]
  have main : ∀ n ph', stepOf words limit s (viewW E T x) = (n, ph') → (n ≠ 7 → RInv E T words L0 { ph := ph', mi := s.mi || decide (n = 3), al := s.al || decide (n = 4), ma := s.ma || decide (n = 5) } (moveW S words sv pr x n) ∧ (ph' = .small ∨ ph' = .big ∨ ph' = .closing)) ∧ (n = 6 → ¬ (words ≤ T - L0)) := by
    intro n ph' h
    have closed : ∀ y, WOk E T y → ∀ a b c, RInv E T words L0 ⟨.closing, a, b, c⟩ y := fun y hy a b c => ⟨hy, by simp, by simp, by simp⟩
    have dead : WOk E T { x with ed := 0, fd := 0, od := 0 } := ⟨h1, by simp, h3, by simp, h5, by simp, by simp only []; omega, by simp only []; omega, by simp only []; omega⟩
    rcases hph with hp | hp | hp
    · have hwE := hsm hp
      have hl := ilive (.inl hp)
      have hcl := iclean (.inl hp)
      have hem := iempty (.inl hp)
      simp only [stepOf, hp] at h
      split at h
      · rename_i hc
        obtain ⟨rfl, rfl⟩ := Prod.mk.inj h
        simp only [viewW] at hc
        exact ⟨fun _ => ⟨by rw [show moveW S words sv pr x 1 = { x with el := x.el + words } from by simp [moveW]]; exact closed { x with el := x.el + words } ⟨by show (0 : Int) ≤ x.el + words; omega, h2, h3, h4, h5, h6, by show x.el + words + x.ed ≤ E; omega, h8, h9⟩ _ _ _, by simp⟩, by simp⟩
      rename_i hc
      simp only [viewW] at hc
      split at h
      · rename_i hg
        obtain ⟨rfl, rfl⟩ := Prod.mk.inj h
        have hs : x.el + x.ed + x.fl + x.fd ≤ T - x.ol - x.od := hg.2
        obtain ⟨m1, m2, m3, m4, m5⟩ := minor_spec (S := S) (sv := sv) (pr := pr) (all := false) iok hs hE
        refine ⟨fun _ => ⟨⟨m1, fun _ => by simp only [moveW]; simp; omega, fun _ hm => ?_, fun _ _ => ⟨m2, m3⟩⟩, .inl rfl⟩, by simp⟩
        simp [hg.1.2.2] at hm
      rename_i hg
      split at h
      · rename_i hm
        obtain ⟨rfl, rfl⟩ := Prod.mk.inj h
        refine ⟨fun _ => ⟨⟨by simpa [moveW] using dead, fun _ => by simpa [moveW] using hl, fun _ _ => by simp [moveW], fun _ he => ?_⟩, .inl rfl⟩, by simp⟩
        have := hem (by simpa using he)
        simp [moveW, this.1]
      rename_i hm
      have hm' : s.ma = true := by simpa using hm
      have hcl' := hcl hm'
      split at h
      · rename_i hg2
        obtain ⟨rfl, rfl⟩ := Prod.mk.inj h
        have hs : x.el + x.ed + x.fl + x.fd ≤ T - x.ol - x.od := hg2.2
        obtain ⟨m1, m2, m3, m4, m5⟩ := minor_spec (S := S) (sv := sv) (pr := pr) (all := true) iok hs hE
        refine ⟨fun _ => ⟨⟨m1, fun _ => by simp only [moveW]; simp; omega, fun _ hm => ⟨m3, (m5 hcl').1, (m5 hcl').2⟩, fun _ _ => ⟨m2, m3⟩⟩, .inl rfl⟩, by simp⟩
      · rename_i hg2
        obtain ⟨rfl, rfl⟩ := Prod.mk.inj h
        refine ⟨fun _ => ⟨closed _ (by simpa [moveW] using iok) _ _ _, by simp⟩, fun _ hfit => ?_⟩
        by_cases hal : s.al = true
        · have := hem (.inr hal)
          omega
        · have hns : ¬ (x.el + x.ed + x.fl + x.fd ≤ T - x.ol - x.od) := fun hh => hg2 ⟨by simpa using hal, hh⟩
          omega
    · have hl := ilive (.inr hp)
      have hcl := iclean (.inr hp)
      have hem := iempty (.inr hp)
      have hbg := hok.big hp
      simp only [stepOf, hp] at h
      split at h
      · rename_i hc
        obtain ⟨rfl, rfl⟩ := Prod.mk.inj h
        have hc1 : words ≤ T - x.ol - x.od := hc.1
        exact ⟨fun _ => ⟨by rw [show moveW S words sv pr x 2 = { x with ol := x.ol + words } from by simp [moveW]]; exact closed { x with ol := x.ol + words } ⟨h1, h2, h3, h4, by show (0 : Int) ≤ x.ol + words; omega, h6, h7, h8, by show x.ol + words + x.od ≤ T; omega⟩ _ _ _, by simp⟩, by simp⟩
      rename_i hc
      split at h
      · rename_i hm
        obtain ⟨rfl, rfl⟩ := Prod.mk.inj h
        refine ⟨fun _ => ⟨⟨by simpa [moveW] using dead, fun _ => by simpa [moveW] using hl, fun _ _ => by simp [moveW], fun _ he => ?_⟩, .inr (.inl rfl)⟩, by simp⟩
        simp [hbg.1, hbg.2] at he
      · rename_i hm
        have hm' : s.ma = true := by simpa using hm
        have hcl' := hcl hm'
        obtain ⟨rfl, rfl⟩ := Prod.mk.inj h
        refine ⟨fun _ => ⟨closed _ (by simpa [moveW] using iok) _ _ _, by simp⟩, fun _ hfit => hc ⟨?_, .inl hm'⟩⟩
        show words ≤ T - x.ol - x.od
        omega
    · simp only [stepOf, hp, closeStep] at h
      split at h
      · obtain ⟨rfl, rfl⟩ := Prod.mk.inj h
        exact ⟨fun _ => ⟨closed _ (by simpa [moveW] using dead) _ _ _, by simp⟩, by simp⟩
      · obtain ⟨rfl, rfl⟩ := Prod.mk.inj h
        exact ⟨fun hh => absurd rfl hh, by simp⟩
  have := main _ _ rfl
  rw [ha _ _ rfl]
  exact this
end Go.Proofs.Ytjphgedbejoeaaa.Pol
