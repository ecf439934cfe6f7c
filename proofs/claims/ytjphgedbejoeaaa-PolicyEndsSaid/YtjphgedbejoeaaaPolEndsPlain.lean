/-
  A turn ends: the plain law, over the machine of numbers.
-/
import Derived.Test.YtjphgedbejoeaaaPolPlain
namespace Go.Proofs.Ytjphgedbejoeaaa.Pol

def b2i (b : Bool) : Int := if b then 1 else 0

/-- What is counted so far agrees with where the turn stands. -/
structure EInv (kind : Int) (s : St) (l : List Int) (h : Nat → Int) (i : Nat) (over : Bool) : Prop where
  ok : Ok s l
  mi : h 3 = b2i s.mi
  al : h 4 = b2i s.al
  ma : h 5 = b2i s.ma
  ov : over = decide (s.ph = .fin)
  pl : (s.ph = .small ∨ s.ph = .big) → kind = 1 ∧ h 1 + h 2 + h 6 = 0
  pl2 : ¬ (s.ph = .small ∨ s.ph = .big) → h 1 + h 2 + h 6 = if kind = 1 then 1 else 0
  cnt : s.ph ≠ .fin → (i : Int) = b2i s.mi + b2i s.al + b2i s.ma + (h 1 + h 2 + h 6)
  nn : ∀ k, 0 ≤ h k ∧ h k ≤ i

def bump (h : Nat → Int) (n : Nat) : Nat → Int := fun k => if k = n then h k + 1 else h k

/-- What the law asks of a step. -/
structure EStep (kind words limit : Int) (s : St) (v : Vw) (i : Nat) (over : Bool) (n : Int) : Prop where
  rng : 1 ≤ n ∧ n ≤ 7
  sure : n = 3 ∨ n = 4 → v.young ≤ v.room
  fail : n = 6 → s.ma = true
  fin : over = true → n = 7
  five : n ≠ 7 → i < 5
  close : n = 7 → over = false → s.ma = false → v.ten ≤ limit
  ma : n = 5 → s.ma = false

theorem step_mi {words limit : Int} {s : St} {l : List Int} (hok : Ok s l) (v : Vw) (h : (stepOf words limit s v).1 = 3) : s.mi = false := by
  have hf := hok.fresh
  revert h
  unfold stepOf closeStep
  cases hph : s.ph <;> simp only [] <;> (repeat' split) <;> simp_all
theorem step_al {words limit : Int} {s : St} {l : List Int} (hok : Ok s l) (v : Vw) (h : (stepOf words limit s v).1 = 4) : s.al = false := by
  have hf := hok.fresh
  revert h
  unfold stepOf closeStep
  cases hph : s.ph <;> simp only [] <;> (repeat' split) <;> simp_all
theorem step_ma {words limit : Int} {s : St} {l : List Int} (hok : Ok s l) (v : Vw) (h : (stepOf words limit s v).1 = 5) : s.ma = false := by
  have hf := hok.none
  revert h
  unfold stepOf closeStep
  cases hph : s.ph <;> simp only [] <;> (repeat' split) <;> simp_all
theorem step_fin (words limit : Int) (s : St) (v : Vw) : (stepOf words limit s v).2 = .fin ↔ (stepOf words limit s v).1 = 7 := by
  unfold stepOf closeStep
  cases hph : s.ph <;> simp only [] <;> (repeat' split) <;> simp_all
theorem step_open (words limit : Int) (s : St) (v : Vw) (h : s.ph = .small ∨ s.ph = .big) :
    ((stepOf words limit s v).2 = s.ph ∧ ((stepOf words limit s v).1 = 3 ∨ (stepOf words limit s v).1 = 4 ∨ (stepOf words limit s v).1 = 5)) ∨
    ((stepOf words limit s v).2 = .closing ∧ ((stepOf words limit s v).1 = 1 ∨ (stepOf words limit s v).1 = 2 ∨ (stepOf words limit s v).1 = 6)) := by
  unfold stepOf closeStep
  rcases h with h | h <;> simp only [h] <;> (repeat' split) <;> simp_all
theorem step_shut (words limit : Int) (s : St) (v : Vw) (h : ¬ (s.ph = .small ∨ s.ph = .big)) :
    ¬ ((stepOf words limit s v).2 = .small ∨ (stepOf words limit s v).2 = .big) ∧ ((stepOf words limit s v).1 = 3 ∨ (stepOf words limit s v).1 = 4 ∨ (stepOf words limit s v).1 = 5 ∨ (stepOf words limit s v).1 = 7) := by
  unfold stepOf closeStep
  cases hph : s.ph <;> simp only [] <;> (repeat' split) <;> simp_all
theorem step_finfin (words limit : Int) (s : St) (v : Vw) (h : s.ph = .fin) : (stepOf words limit s v).1 = 7 := by simp [stepOf, h]

theorem step_close (words limit : Int) (s : St) (v : Vw) (hf : s.ph ≠ .fin) (h3 : s.ma = false) (h1 : (stepOf words limit s v).1 = 7) : v.ten ≤ limit := by
  revert h1
  unfold stepOf closeStep
  cases hph : s.ph <;> simp only [] <;> (repeat' split) <;> simp_all
theorem EInv.step {kind words limit : Int} {s : St} {l : List Int} {h : Nat → Int} {i : Nat} {over : Bool} (e : EInv kind s l h i over) (v : Vw) : EStep kind words limit s v i over (stepOf words limit s v).1 := by
  have hr := step_range words limit s v
  have hcnt := e.cnt
  have hp2 := e.pl2
  have hp1 := e.pl
  have ho := e.ov
  have hk : (if kind = 1 then (1 : Int) else 0) ≤ 1 := by split <;> omega
  have hb : ∀ b, b2i b ≤ 1 := by intro b; cases b <;> simp [b2i]
  have hm := hb s.mi
  have ha := hb s.al
  have hM := hb s.ma
  have hsum : h 1 + h 2 + h 6 ≤ 1 := by
    by_cases hs : s.ph = .small ∨ s.ph = .big
    · have := (hp1 hs).2; omega
    · have := hp2 hs; omega
  refine ⟨hr, ?_, ?_, ?_, ?_, ?_, ?_⟩
  · unfold stepOf closeStep
    cases hph : s.ph <;> simp only [] <;> (repeat' split) <;> simp_all
  · unfold stepOf closeStep
    cases hph : s.ph <;> simp only [] <;> (repeat' split) <;> simp_all
  · intro h1
    rw [h1] at ho
    have : s.ph = .fin := by simpa using ho.symm
    simp [stepOf, this]
  · intro hn
    have : s.ph ≠ .fin := fun hf => hn (by simp [stepOf, hf])
    have := hcnt this
    omega
  · intro h1 h2 h3
    rw [h2] at ho
    exact step_close words limit s v (by simpa using ho.symm) h3 h1
  · exact step_ma e.ok v

theorem bump_ne {h : Nat → Int} {n k : Nat} (hk : k ≠ n) : bump h n k = h k := by simp [bump, hk]
theorem bump_eq (h : Nat → Int) (n : Nat) : bump h n n = h n + 1 := by simp [bump]

theorem EInv.next {kind words limit : Int} {s : St} {l : List Int} {h : Nat → Int} {i : Nat} {over : Bool} (e : EInv kind s l h i over) (v : Vw) :
    EInv kind (after words limit s v) (l ++ cycleOf (stepOf words limit s v).1) (bump h (stepOf words limit s v).1.toNat) (i + 1) (over || decide ((stepOf words limit s v).1 = 7)) := by
  have hr := step_range words limit s v
  have h3 := step_mi (words := words) (limit := limit) e.ok v
  have h4 := step_al (words := words) (limit := limit) e.ok v
  have h5 := step_ma (words := words) (limit := limit) e.ok v
  have h7 := step_fin words limit s v
  have h8 := step_finfin words limit s v
  have hop := step_open words limit s v
  have hsh := step_shut words limit s v
  have hok := e.ok.next words limit v
  have e3 := e.mi
  have e4 := e.al
  have e5 := e.ma
  have eo := e.ov
  have ep := e.pl
  have ep2 := e.pl2
  have ec := e.cnt
  have en := e.nn
  have hph : (after words limit s v).ph = (stepOf words limit s v).2 := rfl
  have hmi : (after words limit s v).mi = (s.mi || decide ((stepOf words limit s v).1 = 3)) := rfl
  have hal : (after words limit s v).al = (s.al || decide ((stepOf words limit s v).1 = 4)) := rfl
  have hma : (after words limit s v).ma = (s.ma || decide ((stepOf words limit s v).1 = 5)) := rfl
  generalize after words limit s v = s' at *
  generalize (stepOf words limit s v).2 = ph' at *
  generalize (stepOf words limit s v).1 = n at *
  clear e
  have hcase : n = 1 ∨ n = 2 ∨ n = 3 ∨ n = 4 ∨ n = 5 ∨ n = 6 ∨ n = 7 := by omega
  have sum : ∀ a b c : Int, a + b + c = a + b + c := fun _ _ _ => rfl
  have hnn : ∀ k, 0 ≤ bump h n.toNat k ∧ bump h n.toNat k ≤ ((i + 1 : Nat) : Int) := by
    intro k
    have := en k
    unfold bump
    split <;> omega
  have B0 : b2i false = 0 := rfl
  have B1 : b2i true = 1 := rfl
  rcases hcase with rfl | rfl | rfl | rfl | rfl | rfl | rfl
  all_goals
    simp only [Int.reduceToNat, Int.reduceEq, decide_false, decide_true, Bool.or_false, Bool.or_true] at *
  case inl | inr.inl | inr.inr.inr.inr.inr.inl =>
    have hs : s.ph = .small ∨ s.ph = .big := by
      by_cases hs : s.ph = .small ∨ s.ph = .big
      · exact hs
      · have := (hsh hs).2; simp at this
    have hcl : ph' = .closing := by
      rcases hop hs with ⟨_, h⟩ | ⟨h, _⟩
      · simp at h
      · exact h
    have hnf : s.ph ≠ .fin := by rcases hs with h | h <;> rw [h] <;> simp
    have k1 := (ep hs).1
    have k2 := (ep hs).2
    have k3 := ec hnf
    refine ⟨hok, ?_, ?_, ?_, ?_, ?_, ?_, ?_, hnn⟩
    · rw [hmi, ← e3]; simp [bump]
    · rw [hal, ← e4]; simp [bump]
    · rw [hma, ← e5]; simp [bump]
    · rw [hph, hcl, eo]; simp [hnf]
    · rw [hph, hcl]; simp
    · intro _; rw [k1]; simp [bump]; omega
    · intro _; rw [hmi, hal, hma]; simp [bump]; omega
  case inr.inr.inl | inr.inr.inr.inl | inr.inr.inr.inr.inl =>
    have hnf : s.ph ≠ .fin := fun h => by have := h8 h; simp at this
    have hnf' : ph' ≠ .fin := fun h => by have := h7.1 h; simp at this
    have k3 := ec hnf
    refine ⟨hok, ?_, ?_, ?_, ?_, ?_, ?_, ?_, hnn⟩
    · rw [hmi]; first | (rw [h3 trivial] at e3; simp [bump, e3, B0, B1]) | (rw [← e3]; simp [bump])
    · rw [hal]; first | (rw [h4 trivial] at e4; simp [bump, e4, B0, B1]) | (rw [← e4]; simp [bump])
    · rw [hma]; first | (rw [h5 trivial] at e5; simp [bump, e5, B0, B1]) | (rw [← e5]; simp [bump])
    · rw [hph, eo]; simp [hnf, hnf']
    · rw [hph]
      intro h
      by_cases hs : s.ph = .small ∨ s.ph = .big
      · have := ep hs
        exact ⟨this.1, by simp [bump]; exact this.2⟩
      · exact absurd h (hsh hs).1
    · rw [hph]
      intro h
      have hs : ¬ (s.ph = .small ∨ s.ph = .big) := fun hs => by
        rcases hop hs with ⟨h1, _⟩ | ⟨_, h1⟩
        · rw [h1] at h; exact h hs
        · simp at h1
      have := ep2 hs
      simp [bump]
      exact this
    · intro _
      rw [hmi, hal, hma]
      first
        | (have t := h3 trivial; rw [t] at k3; simp [bump, B0, B1] at k3 ⊢; omega)
        | (have t := h4 trivial; rw [t] at k3; simp [bump, B0, B1] at k3 ⊢; omega)
        | (have t := h5 trivial; rw [t] at k3; simp [bump, B0, B1] at k3 ⊢; omega)
  case inr.inr.inr.inr.inr.inr =>
    have hfin : ph' = .fin := h7.2 trivial
    have hs : ¬ (s.ph = .small ∨ s.ph = .big) := fun hs => by
      rcases hop hs with ⟨_, h1⟩ | ⟨_, h1⟩ <;> simp at h1
    refine ⟨hok, ?_, ?_, ?_, ?_, ?_, ?_, ?_, hnn⟩
    · rw [hmi, ← e3]; simp [bump]
    · rw [hal, ← e4]; simp [bump]
    · rw [hma, ← e5]; simp [bump]
    · rw [hph, hfin]; simp
    · rw [hph, hfin]; simp
    · intro _; have := ep2 hs; simp [bump]; exact this
    · rw [hph, hfin]; simp

theorem EInv.start (kind : Int) (ph : Ph) (hk : (ph = .small ∨ ph = .big) ↔ kind = 1) (hf : ph ≠ .fin) : EInv kind ⟨ph, false, false, false⟩ [] (fun _ => 0) 0 false := by
  refine ⟨?_, rfl, rfl, rfl, ?_, fun h => ⟨hk.1 h, by simp⟩, fun h => ?_, fun _ => by simp [b2i], fun _ => by simp⟩
  · constructor <;> simp
  · simp [hf]
  · have : kind ≠ 1 := fun e => h (hk.2 e)
    simp [this]

/-- Behind twelve steps it is over, and all counts are as the law asks. -/
theorem EInv.done {kind : Int} {s : St} {l : List Int} {h : Nat → Int} {over : Bool} (e : EInv kind s l h 12 over) :
    over = true ∧ (h 3 ≤ 1 ∧ h 4 ≤ 1 ∧ h 5 ≤ 1) ∧ (h 1 + h 2 + h 6 = if kind = 1 then 1 else 0) ∧ (l.length : Int) = h 3 + h 4 + h 5 := by
  have hb : ∀ b, b2i b ≤ 1 := by intro b; cases b <;> simp [b2i]
  have hm := hb s.mi
  have ha := hb s.al
  have hM := hb s.ma
  have hsum : h 1 + h 2 + h 6 ≤ 1 := by
    by_cases hs : s.ph = .small ∨ s.ph = .big
    · have := (e.pl hs).2; omega
    · have := e.pl2 hs; split at this <;> omega
  have hfin : s.ph = .fin := by
    by_cases hf : s.ph = .fin
    · exact hf
    · have := e.cnt hf; omega
  refine ⟨by rw [e.ov]; simp [hfin], ⟨by rw [e.mi]; exact hm, by rw [e.al]; exact ha, by rw [e.ma]; exact hM⟩, e.pl2 (by rw [hfin]; simp), ?_⟩
  rw [e.mi, e.al, e.ma, e.ok.len]
  unfold b2i
  split <;> split <;> split <;> simp
end Go.Proofs.Ytjphgedbejoeaaa.Pol
