/-
  The frame of a statement of the second form (the arguments' bulk bounded), where package-level variables are listed.
-/
import Derived.Test.YtdcppdgnekhcgaaGreatDoorLawT
import Derived.Test.YtdcppdgnekhcgaaGreatDoorRows
import Derived.Deep.DeepHandedRow
namespace Go.Proofs.YtdcppdgnekhcgaaGreatDoor
open Go.ChangeShapes Go.WideShapes Go.ChangeAt Go.RowKit

theorem law_lifted_upto {C : Checked} {F : FuncId} {fn : Func} {s : ChangeSpec} {laid : List (String × DataW Unit)} {B : TypeId} {H : Type} {enc : TypeId × Value → H} {os : Os} {I : Stop.Interp}
    (started : os.Started) (own : ownKnob C.prog.godebug = none) (noInit : C.prog.inits.idxOf? F = none) (hfn : C.prog.funcs[F]? = some fn)
    (witness : ∃ (w : World) (tape : Tape) (i : Input), w.os = os ∧ (w.forCall tape i).Shaped C.prog ∧ i.vars = [] ∧ Input.okWide C.prog (w.forCall tape i) .any w.heap.size F i ∧
      (Rows.OpenSpec.upto s).preRow enc C.prog fn [] false laid (w.forCall tape i).memory i.args ∧ (({} : Assume)).holds C.prog (lone (Frame.enter C.prog F i.args .normal) [] (w.forCall tape i)))
    (hvars : s.vars = []) (hspec : ∀ ds : List (DataW H), ds.length = fn.params.toList.length → s.fn H ds = { results := [.lit (.bool true)], args := ds })
    (hret : fn.resultTypes = #[B]) (hB : C.prog.underlying B = some .bool) (hl : laidOutB C.prog = true) (hpar : ∀ t ∈ fn.params.toList, C.prog.readableRec t = true ∧ t < C.prog.types.size)
    (contract : ∀ (W : World) (base : Nat) (args : Array Value) (ds : List (DataW H)) (p : List MemPlace),
      (∀ (j : Nat) t v, fn.params[j]? = some t → args[j]? = some v → Value.okWide C.prog W .any base t v) →
      DataW.TrodAll enc C.prog W 0 (fun _ => true) true fn.params.toList args.toList ds p → (∀ x ∈ p, x.block < W.heap.size) →
      (DataW.weightsEach C.prog fn.params.toList ds).all (· ≤ reachBytes) = true → laidMetH C.prog laid W → Rows.uptoSmall H ds = true →
      Calls C.prog F args W fun e W' => e = .returned (.bool true) ∧ Below W.heap.size W W') :
    ReturnsInHanded {} C os F .any ((Rows.OpenSpec.upto s).preRow enc C.prog fn [] false laid) (((Rows.OpenSpec.upto s).at I).post enc C.prog fn false true false false) := by
  refine returnsInHanded_of_row own started noInit hfn witness ?_
  intro W base args ds gs before hval hW _ hcond hsz hL _ _
  have hW : DataW.Whole enc C.prog fn.params.toList s.vars false W args.toList ds gs before := hW
  have hsm : Rows.uptoSmall H (ds ++ gs) = true := hcond _ rfl
  have hW' := hW
  have hlt := hW'.lt
  obtain ⟨p, q, hA, hV, rfl, hfz, hnd⟩ := hW
  have hvt : (Rows.OpenSpec.upto s).bare.plain.varTypes C.prog = [] := by
    have : (Rows.OpenSpec.upto s).bare.plain.vars = [] := hvars
    simp [DataSpec.varTypes, this]
  rw [hvars] at hV
  obtain ⟨rfl, rfl⟩ := trodVars_none hV
  rw [hvt] at hsz
  simp only [List.append_nil] at hsz hW' hlt hsm
  refine (contract W base args ds p hval hA hlt hsz hL hsm).mono fun e W' ⟨he, hb⟩ => ?_
  subst he
  have hs' : s.fn H (ds ++ []) = { results := [.lit (.bool true)], args := ds } := by rw [List.append_nil]; exact hspec ds (trodAll_length hA)
  show ∃ v, Ending.returned (.bool true) = .returned v ∧ s.post enc C.prog fn false true false false W args v W'
  refine ⟨_, rfl, ds, [], p, [], p, [], hW', ?_, ?_, ?_, ?_, fun h => by cases h⟩
  · rw [hs', hret]
    exact trodAll_cons_mk (shut_bool hB _) trodAll_mk0
  · rw [hs']
    exact trodAll_later hl hb hpar hA hlt
  · rw [hs', hvars]
    rfl
  · exact hb.frame _

theorem bulk_one {H : Type} (d : DataW H) : 1 ≤ Rows.uptoBulk d := by
  cases d with
  | lit l => cases l <;> simp [Rows.uptoBulk]
  | nil => simp [Rows.uptoBulk]
  | ptr d => simp [Rows.uptoBulk]
  | slice elems spare => simp [Rows.uptoBulk]
  | agg parts => simp [Rows.uptoBulk]
  | iface t d => simp [Rows.uptoBulk]
  | map entries => simp [Rows.uptoBulk]
  | held h => simp [Rows.uptoBulk]
theorem bulk_part {H : Type} {d : DataW H} {l : List (DataW H)} (h : d ∈ l) : Rows.uptoBulk d ≤ Rows.uptoBulkAll l := by
  induction l with
  | nil => cases h
  | cons x r ih =>
    simp only [Rows.uptoBulkAll]
    cases List.mem_cons.1 h with
    | inl e => subst e; omega
    | inr e => have := ih e; omega
theorem bulk_length {H : Type} (l : List (DataW H)) : l.length ≤ Rows.uptoBulkAll l := by
  induction l with
  | nil => simp [Rows.uptoBulkAll]
  | cons x r ih => have := bulk_one x; simp only [Rows.uptoBulkAll, List.length_cons]; omega
theorem bulk_slice {H : Type} (elems spare : List (DataW H)) : elems.length + spare.length + 1 ≤ Rows.uptoBulk (.slice elems spare) := by
  have h1 := bulk_length elems
  have h2 := bulk_length spare
  simp only [Rows.uptoBulk]
  omega
theorem bulk_agg {H : Type} {d : DataW H} {parts : List (DataW H)} (h : d ∈ parts) : Rows.uptoBulk d ≤ Rows.uptoBulk (.agg parts) := by
  have := bulk_part h
  simp only [Rows.uptoBulk]
  omega
theorem bulk_small {H : Type} {l : List (DataW H)} (hk : Rows.uptoSmall H l = true) : Rows.uptoBulkAll l ≤ 1048576 := of_decide_eq_true hk
end Go.Proofs.YtdcppdgnekhcgaaGreatDoor
