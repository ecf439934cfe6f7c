/-
  The turn of the policy chapter as a machine over numbers: where it stands, which cycles have been run, and what it answers to a view.
-/
namespace Go.Proofs.YtdcppdgnekhcgaaGreatDoor.Pol

/-- Where a turn stands. -/
inductive Ph where
  | small | big | minor | all | major | closing | fin
  deriving DecidableEq

structure St where
  ph : Ph
  mi : Bool
  al : Bool
  ma : Bool

/-- The ran bits as a number. -/
def ranI (mi al ma : Bool) : Int := (if mi then 1 else 0) + (if al then 2 else 0) + (if ma then 4 else 0)

/-- A view, its four numbers (eden's room, young, tenured, tenured room), none below 0. -/
structure Vw where
  eden : Int
  young : Int
  ten : Int
  room : Int

def clip (n : Int) : Int := if n < 0 then 0 else n

def closeStep (limit : Int) (s : St) (v : Vw) : Int × Ph := if limit < v.ten ∧ s.ma = false then (5, .closing) else (7, .fin)

/-- The step that is told, and where the turn stands then (the bits are laid by 'after'). -/
def stepOf (words limit : Int) (s : St) (v : Vw) : Int × Ph :=
  match s.ph with
  | .small =>
    if words ≤ v.eden then (1, .closing)
    else if (s.mi = false ∧ s.al = false ∧ s.ma = false) ∧ v.young ≤ v.room then (3, .small)
    else if s.ma = false then (5, .small)
    else if s.al = false ∧ v.young ≤ v.room then (4, .small)
    else (6, .closing)
  | .big =>
    if words ≤ v.room ∧ (s.ma = true ∨ v.ten ≤ limit - words) then (2, .closing)
    else if s.ma = false then (5, .big)
    else (6, .closing)
  | .minor =>
    if v.young ≤ v.room then (3, .closing)
    else if s.ma = false then (5, .minor)
    else closeStep limit s v
  | .all =>
    if v.young ≤ v.room then (4, .closing)
    else if s.ma = false then (5, .all)
    else closeStep limit s v
  | .major => (5, .closing)
  | .closing => closeStep limit s v
  | .fin => (7, .fin)

/-- The cycle that a step runs. -/
def cycleOf (step : Int) : List Int := if step = 3 then [1] else if step = 4 then [2] else if step = 5 then [3] else []

def after (words limit : Int) (s : St) (v : Vw) : St :=
  { ph := (stepOf words limit s v).2, mi := s.mi || decide ((stepOf words limit s v).1 = 3), al := s.al || decide ((stepOf words limit s v).1 = 4), ma := s.ma || decide ((stepOf words limit s v).1 = 5) }

/-- The cycles that have been run are told once each, and a turn that is forced has run none but a major one. -/
structure Ok (s : St) (l : List Int) : Prop where
  len : l.length = (if s.mi then 1 else 0) + (if s.al then 1 else 0) + (if s.ma then 1 else 0)
  mi : (1 : Int) ∈ l ↔ s.mi = true
  al : (2 : Int) ∈ l ↔ s.al = true
  ma : (3 : Int) ∈ l ↔ s.ma = true
  fresh : s.ph = .minor ∨ s.ph = .all → s.mi = false ∧ s.al = false
  none : s.ph = .major → s.mi = false ∧ s.al = false ∧ s.ma = false
  big : s.ph = .big → s.mi = false ∧ s.al = false

theorem Ok.len3 {s : St} {l : List Int} (h : Ok s l) : l.length ≤ 3 := by
  rw [h.len]
  cases s.mi <;> cases s.al <;> cases s.ma <;> simp

theorem step_range (words limit : Int) (s : St) (v : Vw) : 1 ≤ (stepOf words limit s v).1 ∧ (stepOf words limit s v).1 ≤ 7 := by
  unfold stepOf closeStep
  split <;> (repeat' split) <;> simp

theorem Ok.next {s : St} {l : List Int} (h : Ok s l) (words limit : Int) (v : Vw) : Ok (after words limit s v) (l ++ cycleOf (stepOf words limit s v).1) := by
  obtain ⟨h1, h2, h3, h4, h5, h6, h7⟩ := h
  obtain ⟨ph, mi, al, ma⟩ := s
  simp only at *
  unfold after
  cases ph <;> simp only [stepOf, closeStep] at * <;> (repeat' split) <;> constructor <;> simp_all [cycleOf]
  all_goals omega
end Go.Proofs.YtdcppdgnekhcgaaGreatDoor.Pol
