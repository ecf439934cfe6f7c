/-
  Bag: each of a queue and of a table, and each as an iterator that hands on a list (Hands).
-/
import Derived.Test.YtdjaalkbpdmdgaaGreatBg8
namespace Go.Proofs.YtdjaalkbpdmdgaaGreat
open Go.RowKit Go.Shelf
set_option linter.unusedVariables false
attribute [local go_sem] Oper.semAt_some

theorem yieldAt_wide {n m : Nat} {P : Program} {l : Nat} {args : Array Value} {W : World} {R : Ending → World → Prop} (h : YieldAt Fence.wide n P l args W R) : YieldAt Fence.wide m P l args W R := by
  obtain ⟨fn, tmps, assign, body, hy, hr⟩ := h
  exact ⟨fn, tmps, assign, body, hy, hr.1, fun c cs _ => hr.2 c cs (room_wide _)⟩
theorem callsIn_wideN {n m : Nat} {P : Program} {f : FuncId} {args : Array Value} {W : World} {R : Ending → World → Prop} (h : CallsIn Fence.wide n P f args W R) : CallsIn Fence.wide m P f args W R :=
  ⟨h.1, fun cs _ => h.2 cs (room_wide _)⟩

set_option maxRecDepth 100000 in
set_option maxHeartbeats 1600000 in
theorem queueEach_in (n : Nat) (hn : 2 ≤ n) (lp b0 g n₀ N : Nat) (T : List Nat) (most : Int) (v : Value) (l : List Int) (hl : l.length < N) (hl2 : l.length ≤ 1000000000)
    (hv : ∀ k, v.ownBlock = some k → k < n₀ ∧ k ∉ T) (J : List Int → World → Prop)
    (hY : ∀ pre (x : Int) W, J pre W → pre.length < N → YieldAt Fence.wide (n - 1) Tryz.prog lp #[.int .i64 x] W fun e W' => e = .returned (.bool true) ∧ J (pre ++ [x]) W' ∧ Kb n₀ T W W')
    (W : World) (hS : Sk 122 b0 W g most v l) (h0 : J [] W) :
    CallsIn Fence.wide n Tryz.prog 84 #[.pointer (some ⟨g, 0, none⟩), .func (.yield lp) #[] #[]] W (HandOk l J) := by
  refine callsIn_of_wp Tryz.func84 rfl trivial ?_ rfl
  simp only [Tryz.ntmps84, List.size_toArray, List.length_cons, List.length_nil, Nat.reduceAdd, Nat.reduceSub, Array.replicate_succ, Array.replicate_zero, List.push_toArray, List.append_toArray, List.nil_append, List.cons_append]
  have c1 : W.cell? ⟨g, 1, none⟩ = some v := hS.B.cell 1
  have HL := Lib.hid hS.L
  have HY := Lib.hid hY
  have HV := Lib.hid hv
  have HH := Lib.hid h0
  have HN := Lib.hid (And.intro hl hl2)
  clear hS hY hv h0 hl hl2
  gi_wp2
  refine ⟨trivial, fun _ => by omega, (givenI_in (n - 1) (by omega) lp b0 n₀ N T v l HN.out.1 HN.out.2 HV.out J (fun pre x W h1 h2 => yieldAt_wide (HY.out pre x W h1 h2)) W HL.out HH.out).mono ?_⟩
  rintro e W3 ⟨⟨u, rfl⟩, hJ⟩
  gi_wp2
  go_end0
  exact ⟨⟨_, rfl⟩, hJ⟩

set_option maxRecDepth 100000 in
set_option maxHeartbeats 1600000 in
theorem tableEach_in (n : Nat) (hn : 2 ≤ n) (lp b0 g n₀ N : Nat) (T : List Nat) (v : Value) (l : List PN) (hl : l.length < N) (hl2 : l.length ≤ 1000000000)
    (hv : ∀ k, v.ownBlock = some k → k < n₀ ∧ k ∉ T) (J : List PN → World → Prop) (hJa : ∀ pre W o, J pre W → J pre (W.alloc o))
    (hY : ∀ pre (x : PN) W, J pre W → pre.length < N → YieldAt Fence.wide (n - 1) Tryz.prog lp #[.agg #[kN x.1, vN x.2]] W fun e W' => e = .returned (.bool true) ∧ J (pre ++ [x]) W' ∧ Kb n₀ T W W')
    (W : World) (hS : TbN b0 W g v l) (h0 : J [] W) :
    CallsIn Fence.wide n Tryz.prog 104 #[.pointer (some ⟨g, 0, none⟩), .func (.yield lp) #[] #[]] W (HandOk l J) := by
  refine callsIn_of_wp Tryz.func104 rfl trivial ?_ rfl
  simp only [Tryz.ntmps104, List.size_toArray, List.length_cons, List.length_nil, Nat.reduceAdd, Nat.reduceSub, Array.replicate_succ, Array.replicate_zero, List.push_toArray, List.append_toArray, List.nil_append, List.cons_append]
  have c1 : W.cell? ⟨g, 0, none⟩ = some v := hS.B.cell 0
  have HL := Lib.hid hS.L
  have HY := Lib.hid hY
  have HV := Lib.hid hv
  have HH := Lib.hid h0
  have HN := Lib.hid (And.intro hl hl2)
  have HJA := Lib.hid hJa
  clear hJa
  clear hS hY hv h0 hl hl2
  gi_wp2
  refine ⟨trivial, fun _ => by omega, (givenN_in (n - 1) (by omega) lp b0 n₀ N T v l HN.out.1 HN.out.2 HV.out J HJA.out (fun pre x W h1 h2 => yieldAt_wide (HY.out pre x W h1 h2)) W HL.out HH.out).mono ?_⟩
  rintro e W3 ⟨⟨u, rfl⟩, hJ⟩
  gi_wp2
  go_end0
  exact ⟨⟨_, rfl⟩, hJ⟩
end Go.Proofs.YtdjaalkbpdmdgaaGreat
