/-
  Marks: Runs; Runs' closure as a plain contract.
-/
import Derived.Test.YtheiacfdbhjbmaaDoorMkRun2
namespace Go.Proofs.YtheiacfdbhjbmaaDoor
open Go.RowKit Go.Shelf Mk
set_option linter.unusedVariables false

/-- Runs gives its closure over a box that holds the map. -/
theorem runs_any (g : Nat) (w : World) : Calls Tryd.prog 21 #[.pointer (some ⟨g, 0, none⟩)] w fun e w' => e = .returned (.func (.func 38) #[] #[.pointer (some ⟨w.heap.size, 0, none⟩)]) ∧ w' = w.alloc (.cells #[.pointer (some ⟨g, 0, none⟩)] 24) := by
  go_enter Tryd.func21, Tryd.ntmps21
  go_wp2_with fail
  go_ret
  first | exact ⟨rfl, rfl⟩ | (refine ⟨?_, ?_⟩ <;> simp)

theorem runs1_any (g gb bm gy size : Nat) (caps : Array Value) (f : Nat → Bool) (w : World) (hM : MapIs w g gb size f) (hO : On w) (hbm : w.cell? ⟨bm, 0, none⟩ = some (.pointer (some ⟨g, 0, none⟩)))
    (T : List Nat) (hT : ∀ x ∈ T, x < w.heap.size) (hTg : g ∉ T) (hTb : bm ∉ T) (eg : ∀ args w, (callFunc gy args).run Tryd.prog w = .ok (.enter gy args) w)
    (V : Nat → World → Prop) (U Ux : Nat → Nat → World → Prop) (hV : ∀ n₀, Own (fun (_ : Unit) W => V n₀ W)) (hU : ∀ n₀, Own (U n₀)) (hUx : ∀ n₀, Own (Ux n₀)) (hV0 : ∀ n₀ W, w.heap.size ≤ n₀ → Fr [] w W → V n₀ W) (hU0 : ∀ n₀ W, w.heap.size ≤ n₀ → Fr [] w W → U n₀ 0 W)
    (hY : ∀ n₀ x W, w.heap.size ≤ n₀ → x < size → f x = true → V n₀ W → Calls Tryd.prog gy (#[.int .i64 (x : Nat), .int .i64 ((endN f size x - x : Nat) : Int)] ++ caps) W (Usr f size T n₀ (V n₀) (U n₀) (Ux n₀) x W)) :
    Calls Tryd.prog 38 #[.func (.func gy) #[] caps, .pointer (some ⟨bm, 0, none⟩)] w (RunsOk f size T V U Ux w) :=
  callsIn_wide.1 (runs1_in 3 (Nat.le_refl _) g gb bm gy size caps f w hM hO hbm T hT hTg hTb eg V U Ux hV hU hUx hV0 hU0 hY)

/-- A world's cells hold: that abides whatever the law of a range turns. -/
theorem own_cells (l : List (Addr × Value)) : Own (fun (_ : Unit) W => ∀ c ∈ l, W.cell? c.1 = some c.2) :=
  fun s A B row hs hg hr c hc => cell_kept (hs c hc) hg hr
end Go.Proofs.YtheiacfdbhjbmaaDoor
