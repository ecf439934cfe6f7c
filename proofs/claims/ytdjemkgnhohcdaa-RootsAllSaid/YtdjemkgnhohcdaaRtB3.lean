/-
  Roots, the program's and the document's side by side: every call, and RootsAll's walk.
-/
import Derived.Test.YtdjemkgnhohcdaaRtB2
import Derived.Test.YtdjemkgnhohcdaaRtS12
import Derived.Test.YtdjemkgnhohcdaaRtS3
import Derived.Test.YtdjemkgnhohcdaaRtS16
import Derived.Deep.RegionHeld3
import Derived.Test.YtdjemkgnhohcdaaRtS13
namespace Go.Proofs.Ytdjemkgnhohcdaa
open Go.RowKit
set_option linter.unusedVariables false

/-- Both, apart: what the program's holds, what the document's holds. -/
structure PS (b0 r d : Nat) (a e : RA) (Fp Fd : List Nat) (w : World) : Prop where
  rs : RS b0 w r a Fp
  ds : DS b0 w d e Fd
  ap : ∀ x ∈ Fp, x ∉ Fd
  hb : b0 ≤ w.heap.size
theorem DS.lt {b0 : Nat} {w : World} {g : Nat} {a : RA} {F : List Nat} (h : DS b0 w g a F) : ∀ x ∈ F, b0 ≤ x ∧ x < w.heap.size := by
  obtain ⟨R, h1, _, rfl⟩ := h
  exact h1.foot_lt
section
variable {b0 r d : Nat} {a e a' e' : RA} {Fp Fd : List Nat} {w w' : World}
theorem PS.lt (h : PS b0 r d a e Fp Fd w) : ∀ x ∈ Fp ++ Fd, b0 ≤ x ∧ x < w.heap.size := fun x hx => by
  rcases List.mem_append.1 hx with hx | hx
  · exact ⟨h.rs.base x hx, h.rs.lt x hx⟩
  · exact h.ds.lt x hx
theorem PS.fr {S : List Nat} (h : PS b0 r d a e Fp Fd w) (hf : Fr S w w') (hS : ∀ x ∈ Fp ++ Fd, x ∉ S) : PS b0 r d a e Fp Fd w' :=
  ⟨h.rs.fr hf (fun x hx => hS x (List.mem_append_left _ hx)), h.ds.fr hf (fun x hx => hS x (List.mem_append_right _ hx)), h.ap, Nat.le_trans h.hb hf.size⟩
theorem PS.nil (h : PS b0 r d a e Fp Fd w) (hf : Fr [] w w') : PS b0 r d a e Fp Fd w' := h.fr hf (by simp)
/-- The program's turned, with other blocks besides that are none of theirs. -/
theorem PS.stepX {S Fp' : List Nat} (h : PS b0 r d a e Fp Fd w) (hr : RS b0 w' r a' Fp') (hf : Fr S w w') (hS : ∀ x ∈ S, x ∉ Fd) (hn : ∀ x ∈ Fp', x ∈ Fp ∨ w.heap.size ≤ x) : PS b0 r d a' e Fp' Fd w' :=
  ⟨hr, h.ds.fr hf (fun x hx hs => hS x hs hx), fun x hx hd => by
    rcases hn x hx with k | k
    · exact h.ap x k hd
    · have := (h.ds.lt x hd).2
      omega, Nat.le_trans h.hb hf.size⟩
theorem PS.stepD {Fd' : List Nat} (h : PS b0 r d a e Fp Fd w) (hd : DS b0 w' d e' Fd') (hf : Fr Fd w w') (hn : ∀ x ∈ Fd', x ∈ Fd ∨ w.heap.size ≤ x) : PS b0 r d a e' Fp Fd' w' :=
  ⟨h.rs.fr hf h.ap, hd, fun x hx hd => by
    rcases hn x hd with k | k
    · exact h.ap x hx k
    · have := h.rs.lt x hx
      omega, Nat.le_trans h.hb hf.size⟩
end
/-- What a call of both leaves. -/
def PO (b0 r d : Nat) (a' : RA) (F : List Nat) (w : World) (en : Ending) (w' : World) : Prop :=
  en = .returned (.bool true) ∧ ∃ Fp Fd, PS b0 r d a' a' Fp Fd w' ∧ Fr F w w' ∧ ∀ x ∈ Fp ++ Fd, x ∈ F ∨ w.heap.size ≤ x
/-- While it goes on: boxes of one's own beside them. -/
structure Pl (b0 r d : Nat) (F : List Nat) (w0 : World) (Bx : List (Nat × TypeId × Array Value)) (a e : RA) (w : World) : Prop where
  ps : ∃ Fp Fd, PS b0 r d a e Fp Fd w ∧ ∀ x ∈ Fp ++ Fd, x ∈ F ∨ (w0.heap.size ≤ x ∧ ∀ p ∈ Bx, x ≠ p.1)
  fr : Fr F w0 w
  bx : ∀ p ∈ Bx, Bk w p.1 p.2.1 p.2.2
  far : ∀ p ∈ Bx, p.1 ∉ F
section
variable {b0 r d : Nat} {a e a' e' : RA} {F : List Nat} {w0 w w' : World} {Bx : List (Nat × TypeId × Array Value)}
theorem Pl.nil (h : Pl b0 r d F w0 Bx a e w) (hf : Fr [] w w') : Pl b0 r d F w0 Bx a e w' := by
  obtain ⟨Fp, Fd, h1, h2⟩ := h.ps
  exact ⟨⟨Fp, Fd, h1.nil hf, h2⟩, h.fr.trans hf (by simp), fun p hp => (h.bx p hp).fr hf (by simp), h.far⟩
theorem Pl.end (h : Pl b0 r d F w0 Bx a a w) : PO b0 r d a F w0 (.returned (.bool true)) w := by
  obtain ⟨Fp, Fd, h1, h2⟩ := h.ps
  exact ⟨rfl, Fp, Fd, h1, h.fr, fun x hx => (h2 x hx).imp id (fun h => h.1)⟩
theorem Pl.fd_far {Fp Fd : List Nat} (h : Pl b0 r d F w0 Bx a e w) (h2 : ∀ x ∈ Fp ++ Fd, x ∈ F ∨ (w0.heap.size ≤ x ∧ ∀ p ∈ Bx, x ≠ p.1)) : ∀ p ∈ Bx, p.1 ∉ Fp ++ Fd := fun p hp hx => by
  rcases h2 p.1 hx with k | k
  · exact h.far p hp k
  · exact k.2 p hp rfl
/-- A step of the program's. -/
theorem Pl.rx (h : Pl b0 r d F w0 Bx a e w) : ∃ Fp, RS b0 w r a Fp ∧ b0 ≤ w.heap.size ∧ (∀ x ∈ Fp, b0 ≤ x) ∧ ∀ (S : List Nat) (a' : RA) (Fp' : List Nat) (w' : World), (∀ x ∈ S, x ∈ Fp ∨ (w0.heap.size ≤ x ∧ (∀ p ∈ Bx, x ≠ p.1) ∧ ∀ Fd, DS b0 w d e Fd → x ∉ Fd)) → RS b0 w' r a' Fp' → Fr S w w' → (∀ x ∈ Fp', x ∈ Fp ∨ w.heap.size ≤ x) → Pl b0 r d F w0 Bx a' e w' := by
  obtain ⟨Fp, Fd, h1, h2⟩ := h.ps
  refine ⟨Fp, h1.rs, h1.hb, fun x hx => h1.rs.base x hx, fun S a' Fp' w' hS hr hf hn => ?_⟩
  have hSd : ∀ x ∈ S, x ∉ Fd := fun x hx hd => by
    rcases hS x hx with k | k
    · exact h1.ap x k hd
    · exact k.2.2 Fd h1.ds hd
  refine ⟨⟨Fp', Fd, h1.stepX hr hf hSd hn, fun x hx => ?_⟩, h.fr.trans hf (fun x hx => ?_), fun p hp => (h.bx p hp).fr hf (fun hx => ?_), h.far⟩
  · rcases List.mem_append.1 hx with hx | hx
    · rcases hn x hx with k | k
      · exact h2 x (List.mem_append_left _ k)
      · exact .inr ⟨Nat.le_trans h.fr.size k, fun p hp => by have := (h.bx p hp).lt; omega⟩
    · exact h2 x (List.mem_append_right _ hx)
  · rcases hS x hx with k | k
    · exact (h2 x (List.mem_append_left _ k)).imp id (fun h => h.1)
    · exact .inr k.1
  · rcases hS p.1 hx with k | k
    · exact h.fd_far h2 p hp (List.mem_append_left _ k)
    · exact k.2.1 p hp rfl
theorem Pl.ro (h : Pl b0 r d F w0 Bx a e w) : ∃ Fp, RS b0 w r a Fp ∧ b0 ≤ w.heap.size ∧ ∀ (a' : RA) (v : Value) (en : Ending) (w' : World), RO b0 r a' Fp v w en w' → en = .returned v ∧ Pl b0 r d F w0 Bx a' e w' := by
  obtain ⟨Fp, h1, h2, h3, h4⟩ := h.rx
  refine ⟨Fp, h1, h2, fun a' v en w' ho => ?_⟩
  obtain ⟨k1, Fp', k2, k3, k4⟩ := ho
  exact ⟨k1, h4 Fp a' Fp' w' (fun x hx => .inl hx) k2 k3 k4⟩
/-- A step of the document's. -/
theorem Pl.do_ (h : Pl b0 r d F w0 Bx a e w) : ∃ Fd, DS b0 w d e Fd ∧ b0 ≤ w.heap.size ∧ (∀ x ∈ Fd, b0 ≤ x) ∧ ∀ (e' : RA) (v : Value) (en : Ending) (w' : World), DO b0 d e' Fd v w en w' → en = .returned v ∧ Pl b0 r d F w0 Bx a e' w' := by
  obtain ⟨Fp, Fd, h1, h2⟩ := h.ps
  refine ⟨Fd, h1.ds, h1.hb, fun x hx => (h1.ds.lt x hx).1, fun e' v en w' ho => ?_⟩
  obtain ⟨k1, Fd', k2, k3, k4⟩ := ho
  refine ⟨k1, ⟨Fp, Fd', h1.stepD k2 k3 k4, fun x hx => ?_⟩, h.fr.trans k3 (fun x hx => (h2 x (List.mem_append_right _ hx)).imp id (fun h => h.1)), fun p hp => (h.bx p hp).fr k3 (fun hx => h.fd_far h2 p hp (List.mem_append_right _ hx)), h.far⟩
  rcases List.mem_append.1 hx with hx | hx
  · exact h2 x (List.mem_append_left _ hx)
  · rcases k4 x hx with k | k
    · exact h2 x (List.mem_append_right _ k)
    · exact .inr ⟨Nat.le_trans h.fr.size k, fun p hp => by have := (h.bx p hp).lt; omega⟩
/-- What a call leaves that hands a list. -/
def PL (b0 r d : Nat) (F : List Nat) (w0 : World) (Bx : List (Nat × TypeId × Array Value)) (a e : RA) (l : List Int) (w : World) (en : Ending) (w' : World) : Prop :=
  ∃ A c, en = .returned (.slice A l.length c) ∧ Pl b0 r d F w0 Bx a e w' ∧ RdI w' A l
def PLn (b0 r d : Nat) (F : List Nat) (w0 : World) (Bx : List (Nat × TypeId × Array Value)) (a e : RA) (l : List Int) (w : World) (en : Ending) (w' : World) : Prop :=
  ∃ A c, en = .returned (.slice A l.length c) ∧ Pl b0 r d F w0 Bx a e w' ∧ Fr [] w w' ∧ RdI w' A l
theorem NewL.pln {l : List Int} {en : Ending} (h : Pl b0 r d F w0 Bx a e w) (hn : NewL l w en w') : PLn b0 r d F w0 Bx a e l w en w' := by
  obtain ⟨v, rfl, hl, hf⟩ := hn
  obtain ⟨A, c, rfl, _, _⟩ := hl.look
  exact ⟨A, c, rfl, h.nil hf, hf, hl.rdi rfl⟩
theorem PLn.pl {l : List Int} {en : Ending} (h : PLn b0 r d F w0 Bx a e l w en w') : PL b0 r d F w0 Bx a e l w en w' := by
  obtain ⟨A, c, h1, h2, _, h3⟩ := h
  exact ⟨A, c, h1, h2, h3⟩
theorem pl_frames (h : Pl b0 r d F w0 Bx a e w) (i : Int) : Calls Try.prog 20 #[.pointer (some ⟨r, 0, none⟩), .int .i64 i] w (PL b0 r d F w0 Bx a e (framesA a i) w) := by
  obtain ⟨Fp, h1, _⟩ := h.ro
  exact (frames_any h1 i).mono (fun en w' hn => (NewL.pln h hn).pl)
theorem pl_dframes (h : Pl b0 r d F w0 Bx a e w) (i : Int) : Calls Try.prog 44 #[.pointer (some ⟨d, 0, none⟩), .int .i64 i] w (PLn b0 r d F w0 Bx a e (framesA e i) w) := by
  obtain ⟨Fd, h1, _⟩ := h.do_
  exact (dframes_any h1 i).mono (fun en w' hn => NewL.pln h hn)
theorem pl_handles (h : Pl b0 r d F w0 Bx a e w) : Calls Try.prog 13 #[.pointer (some ⟨r, 0, none⟩)] w (PL b0 r d F w0 Bx a e (handlesA a) w) := by
  obtain ⟨Fp, h1, _⟩ := h.ro
  exact (handles_any h1).mono (fun en w' hn => (NewL.pln h hn).pl)
theorem pl_dhandles (h : Pl b0 r d F w0 Bx a e w) : Calls Try.prog 50 #[.pointer (some ⟨d, 0, none⟩)] w (PLn b0 r d F w0 Bx a e (handlesA e) w) := by
  obtain ⟨Fd, h1, _⟩ := h.do_
  exact (dhandles_any h1).mono (fun en w' hn => NewL.pln h hn)
theorem pl_queue (h : Pl b0 r d F w0 Bx a e w) (hq : a.q.length ≤ 5000000000000) : Calls Try.prog 12 #[.pointer (some ⟨r, 0, none⟩)] w (PL b0 r d F w0 Bx a e a.q w) := by
  obtain ⟨Fp, h1, _⟩ := h.ro
  exact (queue_any h1 (by omega)).mono (fun en w' hn => (NewL.pln h hn).pl)
theorem pl_dqueue (h : Pl b0 r d F w0 Bx a e w) (hq : e.q.length ≤ 5000000000000) : Calls Try.prog 53 #[.pointer (some ⟨d, 0, none⟩)] w (PLn b0 r d F w0 Bx a e e.q w) := by
  obtain ⟨Fd, h1, _⟩ := h.do_
  exact (dqueue_any h1 hq).mono (fun en w' hn => NewL.pln h hn)
theorem pl_all (h : Pl b0 r d F w0 Bx a e w) (hq : a.q.length ≤ 5000000000000) : Calls Try.prog 11 #[.pointer (some ⟨r, 0, none⟩)] w (PL b0 r d F w0 Bx a e (rootsA a) w) := by
  obtain ⟨Fp, h1, h2, _, h4⟩ := h.rx
  refine (all_any h1 h2 hq).mono ?_
  rintro en w' ⟨v, rfl, hl, hr, hf⟩
  obtain ⟨A, c, rfl, _, _⟩ := hl.look
  exact ⟨A, c, rfl, h4 Fp a Fp w' (fun x hx => .inl hx) hr hf (fun x hx => .inl hx), hl.rdi rfl⟩
theorem pl_dall (h : Pl b0 r d F w0 Bx a e w) (hq : e.q.length ≤ 5000000000000) : Calls Try.prog 54 #[.pointer (some ⟨d, 0, none⟩)] w (PLn b0 r d F w0 Bx a e (rootsA e) w) := by
  obtain ⟨Fd, h1, _⟩ := h.do_
  exact (dall_any h1 hq).mono (fun en w' hn => NewL.pln h hn)
theorem pl_same (h : Pl b0 r d F w0 Bx a e w) {A B : Option Addr} {l : List Int} {c c' : Nat} (hA : RdI w A l) (hB : RdI w B l) : Calls Try.prog 28 #[.slice A l.length c, .slice B l.length c'] w fun en w' => en = .returned (.bool true) ∧ Pl b0 r d F w0 Bx a e w' :=
  (same_yes A B l l.length c c' w rfl hA hB).mono (fun en w' hh => ⟨hh.1, h.nil hh.2⟩)
theorem Pl.cell (h : Pl b0 r d F w0 Bx a e w) {p : Nat × TypeId × Array Value} (hp : p ∈ Bx) (i : Nat) : w.cell? ⟨p.1, i, none⟩ = p.2.2[i]? := (h.bx p hp).cell i
/-- The boxes laid. -/
theorem Pl.start1 {Fp Fd : List Nat} (h : PS b0 r d a e Fp Fd w) (t : TypeId) (cs : Array Value) : Pl b0 r d (Fp ++ Fd) w [(w.heap.size, t, cs)] a e (w.alloc (.cells cs t)) :=
  ⟨⟨Fp, Fd, h.nil ((Fr.refl _ _).alloc _), fun x hx => .inl hx⟩, (Fr.refl _ _).alloc _, fun p hp => by
    simp only [List.mem_cons, List.not_mem_nil, or_false] at hp
    subst hp
    exact Bk.new _ _ _, fun p hp => by
    simp only [List.mem_cons, List.not_mem_nil, or_false] at hp
    subst hp
    intro hx
    have := (h.lt _ hx).2
    omega⟩
theorem Pl.start2 {Fp Fd : List Nat} (h : PS b0 r d a e Fp Fd w) (t t' : TypeId) (cs cs' : Array Value) : Pl b0 r d (Fp ++ Fd) w [(w.heap.size, t, cs), (w.heap.size + 1, t', cs')] a e ((w.alloc (.cells cs t)).alloc (.cells cs' t')) :=
  ⟨⟨Fp, Fd, h.nil (((Fr.refl _ _).alloc _).alloc _), fun x hx => .inl hx⟩, ((Fr.refl _ _).alloc _).alloc _, fun p hp => by
    simp only [List.mem_cons, List.not_mem_nil, or_false] at hp
    rcases hp with rfl | rfl
    · exact (Bk.new _ _ _).alloc _
    · exact Bk.new_at _ _ _ _ (by simp), fun p hp => by
    simp only [List.mem_cons, List.not_mem_nil, or_false] at hp
    intro hx
    have := (h.lt _ hx).2
    rcases hp with rfl | rfl <;> simp at this <;> omega⟩
end
end Go.Proofs.Ytdjemkgnhohcdaa
namespace Go.Proofs.Ytdjemkgnhohcdaa
open Go.RowKit
set_option linter.unusedVariables false

theorem Pl.cells8 {b0 r d : Nat} {F : List Nat} {w0 w : World} {a e : RA} {g g' : Nat} {tp tq : TypeId} {p1 p2 o0 o1 o2 o3 o4 o5 : Value} (h : Pl b0 r d F w0 [(g, tp, #[p1, p2]), (g', tq, #[o0, o1, o2, o3, o4, o5])] a e w) :
    w.cell? ⟨g, 0, none⟩ = some p1 ∧ w.cell? ⟨g, 1, none⟩ = some p2 ∧ w.cell? ⟨g', 0, none⟩ = some o0 ∧ w.cell? ⟨g', 1, none⟩ = some o1 ∧ w.cell? ⟨g', 2, none⟩ = some o2 ∧ w.cell? ⟨g', 3, none⟩ = some o3 ∧ w.cell? ⟨g', 4, none⟩ = some o4 ∧ w.cell? ⟨g', 5, none⟩ = some o5 := by
  have h1 := h.bx (g, tp, #[p1, p2]) (by simp)
  have h2 := h.bx (g', tq, #[o0, o1, o2, o3, o4, o5]) (by simp)
  exact ⟨h1.cell 0, h1.cell 1, h2.cell 0, h2.cell 1, h2.cell 2, h2.cell 3, h2.cell 4, h2.cell 5⟩

set_option maxRecDepth 100000 in
set_option maxHeartbeats 1600000 in
theorem plays_push {b0 r d : Nat} {a : RA} {Fp Fd : List Nat} {w : World} (h : PS b0 r d a a Fp Fd w) (t n x : Int) (s : Bool) (la : Option Addr) (ln lc : Nat) :
    Calls Try.prog 31 #[.agg #[.pointer (some ⟨r, 0, none⟩), .pointer (some ⟨d, 0, none⟩)], .agg #[.int .i64 1, .int .i64 t, .int .i64 n, .int .i64 x, .bool s, .slice la ln lc]] w (PO b0 r d (pushA a t n).1 (Fp ++ Fd) w) := by
  have HP0 := Lib.hid (Pl.start2 h 61 48 #[.pointer (some ⟨r, 0, none⟩), .pointer (some ⟨d, 0, none⟩)] #[.int .i64 1, .int .i64 t, .int .i64 n, .int .i64 x, .bool s, .slice la ln lc])
  obtain ⟨wa, hwa⟩ : ∃ wa, wa = (w.alloc (.cells #[.pointer (some ⟨r, 0, none⟩), .pointer (some ⟨d, 0, none⟩)] 61)).alloc (.cells #[.int .i64 1, .int .i64 t, .int .i64 n, .int .i64 x, .bool s, .slice la ln lc] 48) := ⟨_, rfl⟩
  rw [← hwa] at HP0
  have HWA := Lib.hid hwa
  have hws : wa.heap.size = w.heap.size + 2 := by rw [hwa]; simp
  obtain ⟨c0, c1, c2, c3, c4, c5, c6, c7⟩ := HP0.out.cells8
  obtain ⟨v, hv⟩ : ∃ v, (pushA a t n).2 = v := ⟨_, rfl⟩
  obtain ⟨a', ha'⟩ : ∃ a', (pushA a t n).1 = a' := ⟨_, rfl⟩
  have x1 : (v == v) = true := by simp
  obtain ⟨Fp1, H1, hb1, hs1⟩ := HP0.out.ro
  have HC1 := Lib.hid (push_any H1 hb1 t n)
  rw [hv, ha'] at HC1
  have HS1 := Lib.hid hs1
  have HAV : Hid ((pushA a t n).2 = v ∧ (pushA a t n).1 = a') := ⟨hv, ha'⟩
  rw [ha']
  clear h hwa H1 hb1 hs1 hv ha'
  go_enter Try.func31, Try.ntmps31
  go_upto_region 1 with fail
  rw [← HWA.out]
  go_wp2_with fail
  refine (Calls.mono HC1.out ?_)
  rintro en w1 ho
  obtain ⟨rfl, hp1⟩ := HS1.out _ _ _ _ ho
  have HP1 := Lib.hid hp1
  clear c0 c1 c2 c3 c4 c5 c6 c7
  obtain ⟨d0, d1, d2, d3, d4, d5, d6, d7⟩ := HP1.out.cells8
  obtain ⟨Fd1, D1, hb2, _, hs2⟩ := hp1.do_
  have HC2 := Lib.hid (dpush_any D1 hb2 t n)
  rw [HAV.out.1, HAV.out.2] at HC2
  have HS2 := Lib.hid hs2
  clear ho hp1 D1 hb2 hs2
  go_wp2_with fail
  refine (Calls.mono HC2.out ?_)
  rintro en w2 ho
  obtain ⟨rfl, hp2⟩ := HS2.out _ _ _ _ ho
  have HP2 := Lib.hid hp2
  clear ho hp2
  clear d0 d1 d2 d3 d4 d5 d6 d7
  go_wp2_with fail
  go_ret
  exact HP2.out.end

set_option maxRecDepth 100000 in
set_option maxHeartbeats 1600000 in
theorem plays_pop {b0 r d : Nat} {a : RA} {Fp Fd : List Nat} {w : World} (h : PS b0 r d a a Fp Fd w) (t n x : Int) (s : Bool) (la : Option Addr) (ln lc : Nat) :
    Calls Try.prog 31 #[.agg #[.pointer (some ⟨r, 0, none⟩), .pointer (some ⟨d, 0, none⟩)], .agg #[.int .i64 2, .int .i64 t, .int .i64 n, .int .i64 x, .bool s, .slice la ln lc]] w (PO b0 r d (popA a t).1 (Fp ++ Fd) w) := by
  have HP0 := Lib.hid (Pl.start2 h 61 48 #[.pointer (some ⟨r, 0, none⟩), .pointer (some ⟨d, 0, none⟩)] #[.int .i64 2, .int .i64 t, .int .i64 n, .int .i64 x, .bool s, .slice la ln lc])
  obtain ⟨wa, hwa⟩ : ∃ wa, wa = (w.alloc (.cells #[.pointer (some ⟨r, 0, none⟩), .pointer (some ⟨d, 0, none⟩)] 61)).alloc (.cells #[.int .i64 2, .int .i64 t, .int .i64 n, .int .i64 x, .bool s, .slice la ln lc] 48) := ⟨_, rfl⟩
  rw [← hwa] at HP0
  have HWA := Lib.hid hwa
  have hws : wa.heap.size = w.heap.size + 2 := by rw [hwa]; simp
  obtain ⟨c0, c1, c2, c3, c4, c5, c6, c7⟩ := HP0.out.cells8
  obtain ⟨v, hv⟩ : ∃ v, (popA a t).2 = v := ⟨_, rfl⟩
  obtain ⟨a', ha'⟩ : ∃ a', (popA a t).1 = a' := ⟨_, rfl⟩
  have x1 : (v == v) = true := by simp
  obtain ⟨Fp1, H1, hb1, hs1⟩ := HP0.out.ro
  have HC1 := Lib.hid (pop_any H1 hb1 t)
  rw [hv, ha'] at HC1
  have HS1 := Lib.hid hs1
  have HAV : Hid ((popA a t).2 = v ∧ (popA a t).1 = a') := ⟨hv, ha'⟩
  rw [ha']
  clear h hwa H1 hb1 hs1 hv ha'
  go_enter Try.func31, Try.ntmps31
  go_upto_region 1 with fail
  rw [← HWA.out]
  go_wp2_with fail
  refine (Calls.mono HC1.out ?_)
  rintro en w1 ho
  obtain ⟨rfl, hp1⟩ := HS1.out _ _ _ _ ho
  have HP1 := Lib.hid hp1
  clear c0 c1 c2 c3 c4 c5 c6 c7
  obtain ⟨d0, d1, d2, d3, d4, d5, d6, d7⟩ := HP1.out.cells8
  obtain ⟨Fd1, D1, hb2, _, hs2⟩ := hp1.do_
  have HC2 := Lib.hid (dpop_any D1 t)
  rw [HAV.out.1, HAV.out.2] at HC2
  have HS2 := Lib.hid hs2
  clear ho hp1 D1 hb2 hs2
  go_wp2_with fail
  refine (Calls.mono HC2.out ?_)
  rintro en w2 ho
  obtain ⟨rfl, hp2⟩ := HS2.out _ _ _ _ ho
  have HP2 := Lib.hid hp2
  clear ho hp2
  clear d0 d1 d2 d3 d4 d5 d6 d7
  go_wp2_with fail
  go_ret
  exact HP2.out.end

set_option maxRecDepth 100000 in
set_option maxHeartbeats 1600000 in
theorem plays_set {b0 r d : Nat} {a : RA} {Fp Fd : List Nat} {w : World} (h : PS b0 r d a a Fp Fd w) (t n x : Int) (s : Bool) (la : Option Addr) (ln lc : Nat) (hn : -9223372036854775808 ≤ n ∧ n ≤ 9223372036854775807) :
    Calls Try.prog 31 #[.agg #[.pointer (some ⟨r, 0, none⟩), .pointer (some ⟨d, 0, none⟩)], .agg #[.int .i64 5, .int .i64 t, .int .i64 n, .int .i64 x, .bool s, .slice la ln lc]] w (PO b0 r d (setA a t n x).1 (Fp ++ Fd) w) := by
  have HP0 := Lib.hid (Pl.start2 h 61 48 #[.pointer (some ⟨r, 0, none⟩), .pointer (some ⟨d, 0, none⟩)] #[.int .i64 5, .int .i64 t, .int .i64 n, .int .i64 x, .bool s, .slice la ln lc])
  obtain ⟨wa, hwa⟩ : ∃ wa, wa = (w.alloc (.cells #[.pointer (some ⟨r, 0, none⟩), .pointer (some ⟨d, 0, none⟩)] 61)).alloc (.cells #[.int .i64 5, .int .i64 t, .int .i64 n, .int .i64 x, .bool s, .slice la ln lc] 48) := ⟨_, rfl⟩
  rw [← hwa] at HP0
  have HWA := Lib.hid hwa
  have hws : wa.heap.size = w.heap.size + 2 := by rw [hwa]; simp
  obtain ⟨c0, c1, c2, c3, c4, c5, c6, c7⟩ := HP0.out.cells8
  obtain ⟨v, hv⟩ : ∃ v, (setA a t n x).2 = v := ⟨_, rfl⟩
  obtain ⟨a', ha'⟩ : ∃ a', (setA a t n x).1 = a' := ⟨_, rfl⟩
  have x1 : (v == v) = true := by simp
  obtain ⟨Fp1, H1, hb1, hs1⟩ := HP0.out.ro
  have HC1 := Lib.hid (set_any H1 hb1 t n x)
  rw [hv, ha'] at HC1
  have HS1 := Lib.hid hs1
  have HAV : Hid ((setA a t n x).2 = v ∧ (setA a t n x).1 = a') := ⟨hv, ha'⟩
  rw [ha']
  clear h hwa H1 hb1 hs1 hv ha'
  go_enter Try.func31, Try.ntmps31
  go_upto_region 1 with fail
  rw [← HWA.out]
  go_wp2_with fail
  refine (Calls.mono HC1.out ?_)
  rintro en w1 ho
  obtain ⟨rfl, hp1⟩ := HS1.out _ _ _ _ ho
  have HP1 := Lib.hid hp1
  clear c0 c1 c2 c3 c4 c5 c6 c7
  obtain ⟨d0, d1, d2, d3, d4, d5, d6, d7⟩ := HP1.out.cells8
  obtain ⟨Fd1, D1, hb2, _, hs2⟩ := hp1.do_
  have HC2 := Lib.hid (dset_any D1 t n x hn)
  rw [HAV.out.1, HAV.out.2] at HC2
  have HS2 := Lib.hid hs2
  clear ho hp1 D1 hb2 hs2
  go_wp2_with fail
  refine (Calls.mono HC2.out ?_)
  rintro en w2 ho
  obtain ⟨rfl, hp2⟩ := HS2.out _ _ _ _ ho
  have HP2 := Lib.hid hp2
  clear ho hp2
  clear d0 d1 d2 d3 d4 d5 d6 d7
  go_wp2_with fail
  go_ret
  exact HP2.out.end

set_option maxRecDepth 100000 in
set_option maxHeartbeats 1600000 in
theorem plays_close {b0 r d : Nat} {a : RA} {Fp Fd : List Nat} {w : World} (h : PS b0 r d a a Fp Fd w) (t n x : Int) (s : Bool) (la : Option Addr) (ln lc : Nat) :
    Calls Try.prog 31 #[.agg #[.pointer (some ⟨r, 0, none⟩), .pointer (some ⟨d, 0, none⟩)], .agg #[.int .i64 8, .int .i64 t, .int .i64 n, .int .i64 x, .bool s, .slice la ln lc]] w (PO b0 r d (closeA a n).1 (Fp ++ Fd) w) := by
  have HP0 := Lib.hid (Pl.start2 h 61 48 #[.pointer (some ⟨r, 0, none⟩), .pointer (some ⟨d, 0, none⟩)] #[.int .i64 8, .int .i64 t, .int .i64 n, .int .i64 x, .bool s, .slice la ln lc])
  obtain ⟨wa, hwa⟩ : ∃ wa, wa = (w.alloc (.cells #[.pointer (some ⟨r, 0, none⟩), .pointer (some ⟨d, 0, none⟩)] 61)).alloc (.cells #[.int .i64 8, .int .i64 t, .int .i64 n, .int .i64 x, .bool s, .slice la ln lc] 48) := ⟨_, rfl⟩
  rw [← hwa] at HP0
  have HWA := Lib.hid hwa
  have hws : wa.heap.size = w.heap.size + 2 := by rw [hwa]; simp
  obtain ⟨c0, c1, c2, c3, c4, c5, c6, c7⟩ := HP0.out.cells8
  obtain ⟨v, hv⟩ : ∃ v, (closeA a n).2 = v := ⟨_, rfl⟩
  obtain ⟨a', ha'⟩ : ∃ a', (closeA a n).1 = a' := ⟨_, rfl⟩
  have x1 : (v == v) = true := by simp
  obtain ⟨Fp1, H1, hb1, hs1⟩ := HP0.out.ro
  have HC1 := Lib.hid (close_any H1 n)
  rw [hv, ha'] at HC1
  have HS1 := Lib.hid hs1
  have HAV : Hid ((closeA a n).2 = v ∧ (closeA a n).1 = a') := ⟨hv, ha'⟩
  rw [ha']
  clear h hwa H1 hb1 hs1 hv ha'
  go_enter Try.func31, Try.ntmps31
  go_upto_region 1 with fail
  rw [← HWA.out]
  go_wp2_with fail
  refine (Calls.mono HC1.out ?_)
  rintro en w1 ho
  obtain ⟨rfl, hp1⟩ := HS1.out _ _ _ _ ho
  have HP1 := Lib.hid hp1
  clear c0 c1 c2 c3 c4 c5 c6 c7
  obtain ⟨d0, d1, d2, d3, d4, d5, d6, d7⟩ := HP1.out.cells8
  obtain ⟨Fd1, D1, hb2, _, hs2⟩ := hp1.do_
  have HC2 := Lib.hid (dclose_any D1 n)
  rw [HAV.out.1, HAV.out.2] at HC2
  have HS2 := Lib.hid hs2
  clear ho hp1 D1 hb2 hs2
  go_wp2_with fail
  refine (Calls.mono HC2.out ?_)
  rintro en w2 ho
  obtain ⟨rfl, hp2⟩ := HS2.out _ _ _ _ ho
  have HP2 := Lib.hid hp2
  clear ho hp2
  clear d0 d1 d2 d3 d4 d5 d6 d7
  go_wp2_with fail
  go_ret
  exact HP2.out.end

end Go.Proofs.Ytdjemkgnhohcdaa
namespace Go.Proofs.Ytdjemkgnhohcdaa
open Go.RowKit
set_option linter.unusedVariables false

set_option maxRecDepth 100000 in
set_option maxHeartbeats 1600000 in
theorem plays_get {b0 r d : Nat} {a : RA} {Fp Fd : List Nat} {w : World} (h : PS b0 r d a a Fp Fd w) (t n x : Int) (s : Bool) (la : Option Addr) (ln lc : Nat) (hn : -9223372036854775808 ≤ n ∧ n ≤ 9223372036854775807) :
    Calls Try.prog 31 #[.agg #[.pointer (some ⟨r, 0, none⟩), .pointer (some ⟨d, 0, none⟩)], .agg #[.int .i64 4, .int .i64 t, .int .i64 n, .int .i64 x, .bool s, .slice la ln lc]] w (PO b0 r d a (Fp ++ Fd) w) := by
  have HP0 := Lib.hid (Pl.start2 h 61 48 #[.pointer (some ⟨r, 0, none⟩), .pointer (some ⟨d, 0, none⟩)] #[.int .i64 4, .int .i64 t, .int .i64 n, .int .i64 x, .bool s, .slice la ln lc])
  obtain ⟨wa, hwa⟩ : ∃ wa, wa = (w.alloc (.cells #[.pointer (some ⟨r, 0, none⟩), .pointer (some ⟨d, 0, none⟩)] 61)).alloc (.cells #[.int .i64 4, .int .i64 t, .int .i64 n, .int .i64 x, .bool s, .slice la ln lc] 48) := ⟨_, rfl⟩
  rw [← hwa] at HP0
  have HWA := Lib.hid hwa
  have hws : wa.heap.size = w.heap.size + 2 := by rw [hwa]; simp
  obtain ⟨c0, c1, c2, c3, c4, c5, c6, c7⟩ := HP0.out.cells8
  obtain ⟨v1, hv1⟩ : ∃ v1, (getA a t n).1 = v1 := ⟨_, rfl⟩
  obtain ⟨v2, hv2⟩ : ∃ v2, (getA a t n).2 = v2 := ⟨_, rfl⟩
  have x1 : (v1 == v1) = true := by simp
  have x2 : (v2 == v2) = true := by simp
  obtain ⟨Fp1, H1, hb1, hs1⟩ := HP0.out.ro
  have HC1 := Lib.hid (get_any H1 t n)
  rw [hv1, hv2] at HC1
  have HAV : Hid ((getA a t n).1 = v1 ∧ (getA a t n).2 = v2) := ⟨hv1, hv2⟩
  have HS1 := Lib.hid hs1
  clear h hwa H1 hb1 hs1 hv1 hv2
  go_enter Try.func31, Try.ntmps31
  go_upto_region 1 with fail
  rw [← HWA.out]
  go_wp2_with fail
  refine (Calls.mono HC1.out ?_)
  rintro en w1 ⟨rfl, rfl⟩
  have hp1 := HP0.out
  have HP1 := Lib.hid hp1
  clear c0 c1 c2 c3 c4 c5 c6 c7
  obtain ⟨d0, d1, d2, d3, d4, d5, d6, d7⟩ := HP1.out.cells8
  have hw1 : b0 ≤ wa.heap.size := by obtain ⟨_, _, h, _⟩ := hp1.do_; exact h
  obtain ⟨Fd1, D1, hb2, _, hs2⟩ := hp1.do_
  have HC2 := Lib.hid (dget_any D1 t n hn)
  rw [HAV.out.1, HAV.out.2] at HC2
  have HS2 := Lib.hid hs2
  clear hp1 D1 hb2 hs2
  go_wp2_with fail
  refine (Calls.mono HC2.out ?_)
  rintro en w2 ⟨rfl, hf⟩
  have HP2 := Lib.hid (HP1.out.nil hf)
  clear hf
  clear d0 d1 d2 d3 d4 d5 d6 d7
  go_wp2_with fail
  go_ret
  exact HP2.out.end

set_option maxRecDepth 100000 in
set_option maxHeartbeats 1600000 in
theorem plays_open {b0 r d : Nat} {a : RA} {Fp Fd : List Nat} {w : World} (h : PS b0 r d a a Fp Fd w) (t n x : Int) (s : Bool) (la : Option Addr) (ln lc : Nat) :
    Calls Try.prog 31 #[.agg #[.pointer (some ⟨r, 0, none⟩), .pointer (some ⟨d, 0, none⟩)], .agg #[.int .i64 6, .int .i64 t, .int .i64 n, .int .i64 x, .bool s, .slice la ln lc]] w (PO b0 r d (openA a x).1 (Fp ++ Fd) w) := by
  have HP0 := Lib.hid (Pl.start2 h 61 48 #[.pointer (some ⟨r, 0, none⟩), .pointer (some ⟨d, 0, none⟩)] #[.int .i64 6, .int .i64 t, .int .i64 n, .int .i64 x, .bool s, .slice la ln lc])
  obtain ⟨wa, hwa⟩ : ∃ wa, wa = (w.alloc (.cells #[.pointer (some ⟨r, 0, none⟩), .pointer (some ⟨d, 0, none⟩)] 61)).alloc (.cells #[.int .i64 6, .int .i64 t, .int .i64 n, .int .i64 x, .bool s, .slice la ln lc] 48) := ⟨_, rfl⟩
  rw [← hwa] at HP0
  have HWA := Lib.hid hwa
  have hws : wa.heap.size = w.heap.size + 2 := by rw [hwa]; simp
  obtain ⟨c0, c1, c2, c3, c4, c5, c6, c7⟩ := HP0.out.cells8
  obtain ⟨v1, hv1⟩ : ∃ v1, (openA a x).2.1 = v1 := ⟨_, rfl⟩
  obtain ⟨v2, hv2⟩ : ∃ v2, (openA a x).2.2 = v2 := ⟨_, rfl⟩
  have x1 : (v1 == v1) = true := by simp
  have x2 : (v2 == v2) = true := by simp
  obtain ⟨a', ha'⟩ : ∃ a', (openA a x).1 = a' := ⟨_, rfl⟩
  obtain ⟨Fp1, H1, hb1, hs1⟩ := HP0.out.ro
  have HC1 := Lib.hid (open_any H1 x)
  rw [hv1, hv2, ha'] at HC1
  have HAV : Hid ((openA a x).2.1 = v1 ∧ (openA a x).2.2 = v2 ∧ (openA a x).1 = a') := ⟨hv1, hv2, ha'⟩
  rw [ha']
  have HS1 := Lib.hid hs1
  clear h hwa H1 hb1 hs1 hv1 hv2 ha'
  go_enter Try.func31, Try.ntmps31
  go_upto_region 1 with fail
  rw [← HWA.out]
  go_wp2_with fail
  refine (Calls.mono HC1.out ?_)
  rintro en w1 ho
  obtain ⟨rfl, hp1⟩ := HS1.out _ _ _ _ ho
  have HP1 := Lib.hid hp1
  clear ho
  clear c0 c1 c2 c3 c4 c5 c6 c7
  obtain ⟨d0, d1, d2, d3, d4, d5, d6, d7⟩ := HP1.out.cells8
  have hw1 : b0 ≤ w1.heap.size := by obtain ⟨_, _, h, _⟩ := hp1.do_; exact h
  obtain ⟨Fd1, D1, hb2, _, hs2⟩ := hp1.do_
  have HC2 := Lib.hid (dopen_any D1 x)
  rw [HAV.out.1, HAV.out.2.1, HAV.out.2.2] at HC2
  have HS2 := Lib.hid hs2
  clear hp1 D1 hb2 hs2
  go_wp2_with fail
  refine (Calls.mono HC2.out ?_)
  rintro en w2 ho
  obtain ⟨rfl, hp2⟩ := HS2.out _ _ _ _ ho
  have HP2 := Lib.hid hp2
  clear ho hp2
  clear d0 d1 d2 d3 d4 d5 d6 d7
  go_wp2_with fail
  go_ret
  exact HP2.out.end

set_option maxRecDepth 100000 in
set_option maxHeartbeats 1600000 in
theorem plays_handle {b0 r d : Nat} {a : RA} {Fp Fd : List Nat} {w : World} (h : PS b0 r d a a Fp Fd w) (t n x : Int) (s : Bool) (la : Option Addr) (ln lc : Nat) :
    Calls Try.prog 31 #[.agg #[.pointer (some ⟨r, 0, none⟩), .pointer (some ⟨d, 0, none⟩)], .agg #[.int .i64 7, .int .i64 t, .int .i64 n, .int .i64 x, .bool s, .slice la ln lc]] w (PO b0 r d a (Fp ++ Fd) w) := by
  have HP0 := Lib.hid (Pl.start2 h 61 48 #[.pointer (some ⟨r, 0, none⟩), .pointer (some ⟨d, 0, none⟩)] #[.int .i64 7, .int .i64 t, .int .i64 n, .int .i64 x, .bool s, .slice la ln lc])
  obtain ⟨wa, hwa⟩ : ∃ wa, wa = (w.alloc (.cells #[.pointer (some ⟨r, 0, none⟩), .pointer (some ⟨d, 0, none⟩)] 61)).alloc (.cells #[.int .i64 7, .int .i64 t, .int .i64 n, .int .i64 x, .bool s, .slice la ln lc] 48) := ⟨_, rfl⟩
  rw [← hwa] at HP0
  have HWA := Lib.hid hwa
  have hws : wa.heap.size = w.heap.size + 2 := by rw [hwa]; simp
  obtain ⟨c0, c1, c2, c3, c4, c5, c6, c7⟩ := HP0.out.cells8
  obtain ⟨v1, hv1⟩ : ∃ v1, (handleA a n).1 = v1 := ⟨_, rfl⟩
  obtain ⟨v2, hv2⟩ : ∃ v2, (handleA a n).2 = v2 := ⟨_, rfl⟩
  have x1 : (v1 == v1) = true := by simp
  have x2 : (v2 == v2) = true := by simp
  obtain ⟨Fp1, H1, hb1, hs1⟩ := HP0.out.ro
  have HC1 := Lib.hid (handle_any H1 n)
  rw [hv1, hv2] at HC1
  have HAV : Hid ((handleA a n).1 = v1 ∧ (handleA a n).2 = v2) := ⟨hv1, hv2⟩
  have HS1 := Lib.hid hs1
  clear h hwa H1 hb1 hs1 hv1 hv2
  go_enter Try.func31, Try.ntmps31
  go_upto_region 1 with fail
  rw [← HWA.out]
  go_wp2_with fail
  refine (Calls.mono HC1.out ?_)
  rintro en w1 ⟨rfl, rfl⟩
  have hp1 := HP0.out
  have HP1 := Lib.hid hp1
  clear c0 c1 c2 c3 c4 c5 c6 c7
  obtain ⟨d0, d1, d2, d3, d4, d5, d6, d7⟩ := HP1.out.cells8
  have hw1 : b0 ≤ wa.heap.size := by obtain ⟨_, _, h, _⟩ := hp1.do_; exact h
  obtain ⟨Fd1, D1, hb2, _, hs2⟩ := hp1.do_
  have HC2 := Lib.hid (dhandle_any D1 n)
  rw [HAV.out.1, HAV.out.2] at HC2
  have HS2 := Lib.hid hs2
  clear hp1 D1 hb2 hs2
  go_wp2_with fail
  refine (Calls.mono HC2.out ?_)
  rintro en w2 ⟨rfl, rfl⟩
  have HP2 := HP1
  clear d0 d1 d2 d3 d4 d5 d6 d7
  go_wp2_with fail
  go_ret
  exact HP2.out.end

set_option maxRecDepth 100000 in
set_option maxHeartbeats 1600000 in
theorem plays_deq {b0 r d : Nat} {a : RA} {Fp Fd : List Nat} {w : World} (h : PS b0 r d a a Fp Fd w) (t n x : Int) (s : Bool) (la : Option Addr) (ln lc : Nat) (hq : a.q.length ≤ 5000000000000) :
    Calls Try.prog 31 #[.agg #[.pointer (some ⟨r, 0, none⟩), .pointer (some ⟨d, 0, none⟩)], .agg #[.int .i64 11, .int .i64 t, .int .i64 n, .int .i64 x, .bool s, .slice la ln lc]] w (PO b0 r d (deqA a).1 (Fp ++ Fd) w) := by
  have HP0 := Lib.hid (Pl.start2 h 61 48 #[.pointer (some ⟨r, 0, none⟩), .pointer (some ⟨d, 0, none⟩)] #[.int .i64 11, .int .i64 t, .int .i64 n, .int .i64 x, .bool s, .slice la ln lc])
  obtain ⟨wa, hwa⟩ : ∃ wa, wa = (w.alloc (.cells #[.pointer (some ⟨r, 0, none⟩), .pointer (some ⟨d, 0, none⟩)] 61)).alloc (.cells #[.int .i64 11, .int .i64 t, .int .i64 n, .int .i64 x, .bool s, .slice la ln lc] 48) := ⟨_, rfl⟩
  rw [← hwa] at HP0
  have HWA := Lib.hid hwa
  have hws : wa.heap.size = w.heap.size + 2 := by rw [hwa]; simp
  obtain ⟨c0, c1, c2, c3, c4, c5, c6, c7⟩ := HP0.out.cells8
  obtain ⟨v1, hv1⟩ : ∃ v1, (deqA a).2.1 = v1 := ⟨_, rfl⟩
  obtain ⟨v2, hv2⟩ : ∃ v2, (deqA a).2.2 = v2 := ⟨_, rfl⟩
  have x1 : (v1 == v1) = true := by simp
  have x2 : (v2 == v2) = true := by simp
  obtain ⟨a', ha'⟩ : ∃ a', (deqA a).1 = a' := ⟨_, rfl⟩
  obtain ⟨Fp1, H1, hb1, hs1⟩ := HP0.out.ro
  have HC1 := Lib.hid (deq_any H1 hb1)
  rw [hv1, hv2, ha'] at HC1
  have HAV : Hid ((deqA a).2.1 = v1 ∧ (deqA a).2.2 = v2 ∧ (deqA a).1 = a') := ⟨hv1, hv2, ha'⟩
  rw [ha']
  have HS1 := Lib.hid hs1
  clear h hwa H1 hb1 hs1 hv1 hv2 ha'
  go_enter Try.func31, Try.ntmps31
  go_upto_region 1 with fail
  rw [← HWA.out]
  go_wp2_with fail
  refine (Calls.mono HC1.out ?_)
  rintro en w1 ho
  obtain ⟨rfl, hp1⟩ := HS1.out _ _ _ _ ho
  have HP1 := Lib.hid hp1
  clear ho
  clear c0 c1 c2 c3 c4 c5 c6 c7
  obtain ⟨d0, d1, d2, d3, d4, d5, d6, d7⟩ := HP1.out.cells8
  have hw1 : b0 ≤ w1.heap.size := by obtain ⟨_, _, h, _⟩ := hp1.do_; exact h
  obtain ⟨Fd1, D1, hb2, _, hs2⟩ := hp1.do_
  have HC2 := Lib.hid (ddeq_any D1 hb2 hq)
  rw [HAV.out.1, HAV.out.2.1, HAV.out.2.2] at HC2
  have HS2 := Lib.hid hs2
  clear hp1 D1 hb2 hs2
  go_wp2_with fail
  refine (Calls.mono HC2.out ?_)
  rintro en w2 ho
  obtain ⟨rfl, hp2⟩ := HS2.out _ _ _ _ ho
  have HP2 := Lib.hid hp2
  clear ho hp2
  clear d0 d1 d2 d3 d4 d5 d6 d7
  go_wp2_with fail
  go_ret
  exact HP2.out.end

set_option maxRecDepth 100000 in
set_option maxHeartbeats 1600000 in
theorem plays_enq {b0 r d : Nat} {a : RA} {Fp Fd : List Nat} {w : World} (h : PS b0 r d a a Fp Fd w) (t n x : Int) (s : Bool) (la : Option Addr) (ln lc : Nat) (hq : a.q.length ≤ 5000000000000) :
    Calls Try.prog 31 #[.agg #[.pointer (some ⟨r, 0, none⟩), .pointer (some ⟨d, 0, none⟩)], .agg #[.int .i64 10, .int .i64 t, .int .i64 n, .int .i64 x, .bool s, .slice la ln lc]] w (PO b0 r d (enqA a x) (Fp ++ Fd) w) := by
  have HP0 := Lib.hid (Pl.start2 h 61 48 #[.pointer (some ⟨r, 0, none⟩), .pointer (some ⟨d, 0, none⟩)] #[.int .i64 10, .int .i64 t, .int .i64 n, .int .i64 x, .bool s, .slice la ln lc])
  obtain ⟨wa, hwa⟩ : ∃ wa, wa = (w.alloc (.cells #[.pointer (some ⟨r, 0, none⟩), .pointer (some ⟨d, 0, none⟩)] 61)).alloc (.cells #[.int .i64 10, .int .i64 t, .int .i64 n, .int .i64 x, .bool s, .slice la ln lc] 48) := ⟨_, rfl⟩
  rw [← hwa] at HP0
  have HWA := Lib.hid hwa
  have hws : wa.heap.size = w.heap.size + 2 := by rw [hwa]; simp
  obtain ⟨c0, c1, c2, c3, c4, c5, c6, c7⟩ := HP0.out.cells8
  obtain ⟨Fp1, H1, hb1, hs1⟩ := HP0.out.ro
  have HC1 := Lib.hid (enq_any H1 hb1 (by omega) x)
  have HS1 := Lib.hid hs1
  clear h hwa H1 hb1 hs1
  go_enter Try.func31, Try.ntmps31
  go_upto_region 1 with fail
  rw [← HWA.out]
  go_wp2_with fail
  refine (Calls.mono HC1.out ?_)
  rintro en w1 ho
  obtain ⟨rfl, hp1⟩ := HS1.out _ _ _ _ ho
  have HP1 := Lib.hid hp1
  clear c0 c1 c2 c3 c4 c5 c6 c7
  obtain ⟨d0, d1, d2, d3, d4, d5, d6, d7⟩ := HP1.out.cells8
  obtain ⟨Fd1, D1, hb2, _, hs2⟩ := hp1.do_
  have HC2 := Lib.hid (denq_any D1 hb2 hq x)
  have HS2 := Lib.hid hs2
  clear ho hp1 D1 hb2 hs2
  go_wp2_with fail
  refine (Calls.mono HC2.out ?_)
  rintro en w2 ho
  obtain ⟨rfl, hp2⟩ := HS2.out _ _ _ _ ho
  have HP2 := Lib.hid hp2
  clear ho hp2
  clear d0 d1 d2 d3 d4 d5 d6 d7
  go_wp2_with fail
  go_ret
  exact HP2.out.end

set_option maxRecDepth 100000 in
set_option maxHeartbeats 1600000 in
theorem plays_none {b0 r d : Nat} {a : RA} {Fp Fd : List Nat} {w : World} (h : PS b0 r d a a Fp Fd w) (t n x : Int) (s : Bool) (la : Option Addr) (ln lc : Nat) (k : Int) (hk : ∀ j : Int, 1 ≤ j → j ≤ 14 → k ≠ j) :
    Calls Try.prog 31 #[.agg #[.pointer (some ⟨r, 0, none⟩), .pointer (some ⟨d, 0, none⟩)], .agg #[.int .i64 k, .int .i64 t, .int .i64 n, .int .i64 x, .bool s, .slice la ln lc]] w (PO b0 r d a (Fp ++ Fd) w) := by
  have HP0 := Lib.hid (Pl.start2 h 61 48 #[.pointer (some ⟨r, 0, none⟩), .pointer (some ⟨d, 0, none⟩)] #[.int .i64 k, .int .i64 t, .int .i64 n, .int .i64 x, .bool s, .slice la ln lc])
  obtain ⟨wa, hwa⟩ : ∃ wa, wa = (w.alloc (.cells #[.pointer (some ⟨r, 0, none⟩), .pointer (some ⟨d, 0, none⟩)] 61)).alloc (.cells #[.int .i64 k, .int .i64 t, .int .i64 n, .int .i64 x, .bool s, .slice la ln lc] 48) := ⟨_, rfl⟩
  rw [← hwa] at HP0
  have HWA := Lib.hid hwa
  have hws : wa.heap.size = w.heap.size + 2 := by rw [hwa]; simp
  obtain ⟨c0, c1, c2, c3, c4, c5, c6, c7⟩ := HP0.out.cells8
  have y1 : (k == 1) = false := by simpa using hk 1 (by omega) (by omega)
  have y2 : (k == 2) = false := by simpa using hk 2 (by omega) (by omega)
  have y3 : (k == 3) = false := by simpa using hk 3 (by omega) (by omega)
  have y4 : (k == 4) = false := by simpa using hk 4 (by omega) (by omega)
  have y5 : (k == 5) = false := by simpa using hk 5 (by omega) (by omega)
  have y6 : (k == 6) = false := by simpa using hk 6 (by omega) (by omega)
  have y7 : (k == 7) = false := by simpa using hk 7 (by omega) (by omega)
  have y8 : (k == 8) = false := by simpa using hk 8 (by omega) (by omega)
  have y9 : (k == 9) = false := by simpa using hk 9 (by omega) (by omega)
  have y10 : (k == 10) = false := by simpa using hk 10 (by omega) (by omega)
  have y11 : (k == 11) = false := by simpa using hk 11 (by omega) (by omega)
  have y12 : (k == 12) = false := by simpa using hk 12 (by omega) (by omega)
  have y13 : (k == 13) = false := by simpa using hk 13 (by omega) (by omega)
  have y14 : (k == 14) = false := by simpa using hk 14 (by omega) (by omega)
  clear h hwa hk
  go_enter Try.func31, Try.ntmps31
  go_upto_region 1 with fail
  rw [← HWA.out]
  go_wp2_with fail
  go_ret
  exact HP0.out.end

end Go.Proofs.Ytdjemkgnhohcdaa
namespace Go.Proofs.Ytdjemkgnhohcdaa
open Go.RowKit
set_option linter.unusedVariables false

set_option maxRecDepth 100000 in
set_option maxHeartbeats 1600000 in
theorem plays_frames {b0 r d : Nat} {a : RA} {Fp Fd : List Nat} {w : World} (h : PS b0 r d a a Fp Fd w) (t n x : Int) (s : Bool) (la : Option Addr) (ln lc : Nat) :
    Calls Try.prog 31 #[.agg #[.pointer (some ⟨r, 0, none⟩), .pointer (some ⟨d, 0, none⟩)], .agg #[.int .i64 3, .int .i64 t, .int .i64 n, .int .i64 x, .bool s, .slice la ln lc]] w (PO b0 r d a (Fp ++ Fd) w) := by
  have HP0 := Lib.hid (Pl.start2 h 61 48 #[.pointer (some ⟨r, 0, none⟩), .pointer (some ⟨d, 0, none⟩)] #[.int .i64 3, .int .i64 t, .int .i64 n, .int .i64 x, .bool s, .slice la ln lc])
  obtain ⟨wa, hwa⟩ : ∃ wa, wa = (w.alloc (.cells #[.pointer (some ⟨r, 0, none⟩), .pointer (some ⟨d, 0, none⟩)] 61)).alloc (.cells #[.int .i64 3, .int .i64 t, .int .i64 n, .int .i64 x, .bool s, .slice la ln lc] 48) := ⟨_, rfl⟩
  rw [← hwa] at HP0
  have HWA := Lib.hid hwa
  have hws : wa.heap.size = w.heap.size + 2 := by rw [hwa]; simp
  obtain ⟨c0, c1, c2, c3, c4, c5, c6, c7⟩ := HP0.out.cells8
  obtain ⟨l, hl⟩ : ∃ l, framesA a t = l := ⟨_, rfl⟩
  have HCR : Hid (∀ Z, Pl b0 r d (Fp ++ Fd) w [(w.heap.size, 61, #[.pointer (some ⟨r, 0, none⟩), .pointer (some ⟨d, 0, none⟩)]), (w.heap.size + 1, 48, #[.int .i64 3, .int .i64 t, .int .i64 n, .int .i64 x, .bool s, .slice la ln lc])] a a Z → Calls Try.prog 20 #[.pointer (some ⟨r, 0, none⟩), .int .i64 t] Z (PL b0 r d (Fp ++ Fd) w [(w.heap.size, 61, #[.pointer (some ⟨r, 0, none⟩), .pointer (some ⟨d, 0, none⟩)]), (w.heap.size + 1, 48, #[.int .i64 3, .int .i64 t, .int .i64 n, .int .i64 x, .bool s, .slice la ln lc])] a a l Z)) := fun Z hz => by rw [← hl]; exact pl_frames hz t
  have HCD : Hid (∀ Z, Pl b0 r d (Fp ++ Fd) w [(w.heap.size, 61, #[.pointer (some ⟨r, 0, none⟩), .pointer (some ⟨d, 0, none⟩)]), (w.heap.size + 1, 48, #[.int .i64 3, .int .i64 t, .int .i64 n, .int .i64 x, .bool s, .slice la ln lc])] a a Z → Calls Try.prog 44 #[.pointer (some ⟨d, 0, none⟩), .int .i64 t] Z (PLn b0 r d (Fp ++ Fd) w [(w.heap.size, 61, #[.pointer (some ⟨r, 0, none⟩), .pointer (some ⟨d, 0, none⟩)]), (w.heap.size + 1, 48, #[.int .i64 3, .int .i64 t, .int .i64 n, .int .i64 x, .bool s, .slice la ln lc])] a a l Z)) := fun Z hz => by rw [← hl]; exact pl_dframes hz t
  have HKEEP : Hid (∀ Z, Pl b0 r d (Fp ++ Fd) w [(w.heap.size, 61, #[.pointer (some ⟨r, 0, none⟩), .pointer (some ⟨d, 0, none⟩)]), (w.heap.size + 1, 48, #[.int .i64 3, .int .i64 t, .int .i64 n, .int .i64 x, .bool s, .slice la ln lc])] a a Z → Z.cell? ⟨w.heap.size, 0, none⟩ = some (.pointer (some ⟨r, 0, none⟩)) ∧ Z.cell? ⟨w.heap.size, 1, none⟩ = some (.pointer (some ⟨d, 0, none⟩)) ∧ Z.cell? ⟨w.heap.size + 1, 1, none⟩ = some (.int .i64 t)) := fun Z hz => by
    obtain ⟨d0, d1, d2, d3, d4, d5, d6, d7⟩ := hz.cells8
    exact ⟨d0, d1, d3⟩
  have HPD := Lib.hid (HP0.out.nil ((Fr.refl [] wa).drew))
  clear h hwa hl
  go_enter Try.func31, Try.ntmps31
  go_upto_region 1 with fail
  rw [← HWA.out]
  go_upto_region 9 with fail
  clear c0 c1 c2 c3 c4 c5 c6 c7
  go_region_held3 (fun W => W.cell? ⟨w.heap.size, 0, none⟩ = some (.pointer (some ⟨r, 0, none⟩)) ∧ W.cell? ⟨w.heap.size, 1, none⟩ = some (.pointer (some ⟨d, 0, none⟩)) ∧ W.cell? ⟨w.heap.size + 1, 1, none⟩ = some (.int .i64 t)) ((first | exact HKEEP.out _ (by assumption) | exact HKEEP.out _ HPD.out))
    ((first | (go_at_call 20; refine (HCR.out _ HPD.out).mono ?_; rintro en z1 ⟨A1, k1, rfl, hpl1, hr1⟩) | (go_at_call 44; refine (HCD.out _ (by assumption)).mono ?_; rintro en z2 ⟨A2, k2, rfl, hpl2, hf2, hr2⟩; have hr3 := hr1.fr hf2 (by simp)) | (go_at_call 28; refine (pl_same hpl2 hr3 hr2).mono ?_; rintro en z3 ⟨rfl, hpl3⟩)))
  go_wp2_with fail
  go_ret
  exact hpl3.end

set_option maxRecDepth 100000 in
set_option maxHeartbeats 1600000 in
theorem plays_handles {b0 r d : Nat} {a : RA} {Fp Fd : List Nat} {w : World} (h : PS b0 r d a a Fp Fd w) (t n x : Int) (s : Bool) (la : Option Addr) (ln lc : Nat) :
    Calls Try.prog 31 #[.agg #[.pointer (some ⟨r, 0, none⟩), .pointer (some ⟨d, 0, none⟩)], .agg #[.int .i64 9, .int .i64 t, .int .i64 n, .int .i64 x, .bool s, .slice la ln lc]] w (PO b0 r d a (Fp ++ Fd) w) := by
  have HP0 := Lib.hid (Pl.start2 h 61 48 #[.pointer (some ⟨r, 0, none⟩), .pointer (some ⟨d, 0, none⟩)] #[.int .i64 9, .int .i64 t, .int .i64 n, .int .i64 x, .bool s, .slice la ln lc])
  obtain ⟨wa, hwa⟩ : ∃ wa, wa = (w.alloc (.cells #[.pointer (some ⟨r, 0, none⟩), .pointer (some ⟨d, 0, none⟩)] 61)).alloc (.cells #[.int .i64 9, .int .i64 t, .int .i64 n, .int .i64 x, .bool s, .slice la ln lc] 48) := ⟨_, rfl⟩
  rw [← hwa] at HP0
  have HWA := Lib.hid hwa
  have hws : wa.heap.size = w.heap.size + 2 := by rw [hwa]; simp
  obtain ⟨c0, c1, c2, c3, c4, c5, c6, c7⟩ := HP0.out.cells8
  obtain ⟨l, hl⟩ : ∃ l, handlesA a = l := ⟨_, rfl⟩
  have HCR : Hid (∀ Z, Pl b0 r d (Fp ++ Fd) w [(w.heap.size, 61, #[.pointer (some ⟨r, 0, none⟩), .pointer (some ⟨d, 0, none⟩)]), (w.heap.size + 1, 48, #[.int .i64 9, .int .i64 t, .int .i64 n, .int .i64 x, .bool s, .slice la ln lc])] a a Z → Calls Try.prog 13 #[.pointer (some ⟨r, 0, none⟩)] Z (PL b0 r d (Fp ++ Fd) w [(w.heap.size, 61, #[.pointer (some ⟨r, 0, none⟩), .pointer (some ⟨d, 0, none⟩)]), (w.heap.size + 1, 48, #[.int .i64 9, .int .i64 t, .int .i64 n, .int .i64 x, .bool s, .slice la ln lc])] a a l Z)) := fun Z hz => by rw [← hl]; exact pl_handles hz
  have HCD : Hid (∀ Z, Pl b0 r d (Fp ++ Fd) w [(w.heap.size, 61, #[.pointer (some ⟨r, 0, none⟩), .pointer (some ⟨d, 0, none⟩)]), (w.heap.size + 1, 48, #[.int .i64 9, .int .i64 t, .int .i64 n, .int .i64 x, .bool s, .slice la ln lc])] a a Z → Calls Try.prog 50 #[.pointer (some ⟨d, 0, none⟩)] Z (PLn b0 r d (Fp ++ Fd) w [(w.heap.size, 61, #[.pointer (some ⟨r, 0, none⟩), .pointer (some ⟨d, 0, none⟩)]), (w.heap.size + 1, 48, #[.int .i64 9, .int .i64 t, .int .i64 n, .int .i64 x, .bool s, .slice la ln lc])] a a l Z)) := fun Z hz => by rw [← hl]; exact pl_dhandles hz
  have HKEEP : Hid (∀ Z, Pl b0 r d (Fp ++ Fd) w [(w.heap.size, 61, #[.pointer (some ⟨r, 0, none⟩), .pointer (some ⟨d, 0, none⟩)]), (w.heap.size + 1, 48, #[.int .i64 9, .int .i64 t, .int .i64 n, .int .i64 x, .bool s, .slice la ln lc])] a a Z → Z.cell? ⟨w.heap.size, 0, none⟩ = some (.pointer (some ⟨r, 0, none⟩)) ∧ Z.cell? ⟨w.heap.size, 1, none⟩ = some (.pointer (some ⟨d, 0, none⟩))) := fun Z hz => by
    obtain ⟨d0, d1, d2, d3, d4, d5, d6, d7⟩ := hz.cells8
    exact ⟨d0, d1⟩
  have HPD := Lib.hid (HP0.out.nil ((Fr.refl [] wa).drew))
  clear h hwa hl
  go_enter Try.func31, Try.ntmps31
  go_upto_region 1 with fail
  rw [← HWA.out]
  go_upto_region 29 with fail
  clear c0 c1 c2 c3 c4 c5 c6 c7
  go_region_held3 (fun W => W.cell? ⟨w.heap.size, 0, none⟩ = some (.pointer (some ⟨r, 0, none⟩)) ∧ W.cell? ⟨w.heap.size, 1, none⟩ = some (.pointer (some ⟨d, 0, none⟩))) ((first | exact HKEEP.out _ (by assumption) | exact HKEEP.out _ HPD.out))
    ((first | (go_at_call 13; refine (HCR.out _ HPD.out).mono ?_; rintro en z1 ⟨A1, k1, rfl, hpl1, hr1⟩) | (go_at_call 50; refine (HCD.out _ (by assumption)).mono ?_; rintro en z2 ⟨A2, k2, rfl, hpl2, hf2, hr2⟩; have hr3 := hr1.fr hf2 (by simp)) | (go_at_call 28; refine (pl_same hpl2 hr3 hr2).mono ?_; rintro en z3 ⟨rfl, hpl3⟩)))
  go_wp2_with fail
  go_ret
  exact hpl3.end

set_option maxRecDepth 100000 in
set_option maxHeartbeats 1600000 in
theorem plays_queue {b0 r d : Nat} {a : RA} {Fp Fd : List Nat} {w : World} (h : PS b0 r d a a Fp Fd w) (t n x : Int) (s : Bool) (la : Option Addr) (ln lc : Nat) (hq : a.q.length ≤ 5000000000000) :
    Calls Try.prog 31 #[.agg #[.pointer (some ⟨r, 0, none⟩), .pointer (some ⟨d, 0, none⟩)], .agg #[.int .i64 12, .int .i64 t, .int .i64 n, .int .i64 x, .bool s, .slice la ln lc]] w (PO b0 r d a (Fp ++ Fd) w) := by
  have HP0 := Lib.hid (Pl.start2 h 61 48 #[.pointer (some ⟨r, 0, none⟩), .pointer (some ⟨d, 0, none⟩)] #[.int .i64 12, .int .i64 t, .int .i64 n, .int .i64 x, .bool s, .slice la ln lc])
  obtain ⟨wa, hwa⟩ : ∃ wa, wa = (w.alloc (.cells #[.pointer (some ⟨r, 0, none⟩), .pointer (some ⟨d, 0, none⟩)] 61)).alloc (.cells #[.int .i64 12, .int .i64 t, .int .i64 n, .int .i64 x, .bool s, .slice la ln lc] 48) := ⟨_, rfl⟩
  rw [← hwa] at HP0
  have HWA := Lib.hid hwa
  have hws : wa.heap.size = w.heap.size + 2 := by rw [hwa]; simp
  obtain ⟨c0, c1, c2, c3, c4, c5, c6, c7⟩ := HP0.out.cells8
  obtain ⟨l, hl⟩ : ∃ l, a.q = l := ⟨_, rfl⟩
  have HCR : Hid (∀ Z, Pl b0 r d (Fp ++ Fd) w [(w.heap.size, 61, #[.pointer (some ⟨r, 0, none⟩), .pointer (some ⟨d, 0, none⟩)]), (w.heap.size + 1, 48, #[.int .i64 12, .int .i64 t, .int .i64 n, .int .i64 x, .bool s, .slice la ln lc])] a a Z → Calls Try.prog 12 #[.pointer (some ⟨r, 0, none⟩)] Z (PL b0 r d (Fp ++ Fd) w [(w.heap.size, 61, #[.pointer (some ⟨r, 0, none⟩), .pointer (some ⟨d, 0, none⟩)]), (w.heap.size + 1, 48, #[.int .i64 12, .int .i64 t, .int .i64 n, .int .i64 x, .bool s, .slice la ln lc])] a a l Z)) := fun Z hz => by rw [← hl]; exact pl_queue hz hq
  have HCD : Hid (∀ Z, Pl b0 r d (Fp ++ Fd) w [(w.heap.size, 61, #[.pointer (some ⟨r, 0, none⟩), .pointer (some ⟨d, 0, none⟩)]), (w.heap.size + 1, 48, #[.int .i64 12, .int .i64 t, .int .i64 n, .int .i64 x, .bool s, .slice la ln lc])] a a Z → Calls Try.prog 53 #[.pointer (some ⟨d, 0, none⟩)] Z (PLn b0 r d (Fp ++ Fd) w [(w.heap.size, 61, #[.pointer (some ⟨r, 0, none⟩), .pointer (some ⟨d, 0, none⟩)]), (w.heap.size + 1, 48, #[.int .i64 12, .int .i64 t, .int .i64 n, .int .i64 x, .bool s, .slice la ln lc])] a a l Z)) := fun Z hz => by rw [← hl]; exact pl_dqueue hz hq
  have HKEEP : Hid (∀ Z, Pl b0 r d (Fp ++ Fd) w [(w.heap.size, 61, #[.pointer (some ⟨r, 0, none⟩), .pointer (some ⟨d, 0, none⟩)]), (w.heap.size + 1, 48, #[.int .i64 12, .int .i64 t, .int .i64 n, .int .i64 x, .bool s, .slice la ln lc])] a a Z → Z.cell? ⟨w.heap.size, 0, none⟩ = some (.pointer (some ⟨r, 0, none⟩)) ∧ Z.cell? ⟨w.heap.size, 1, none⟩ = some (.pointer (some ⟨d, 0, none⟩))) := fun Z hz => by
    obtain ⟨d0, d1, d2, d3, d4, d5, d6, d7⟩ := hz.cells8
    exact ⟨d0, d1⟩
  have HPD := Lib.hid (HP0.out.nil ((Fr.refl [] wa).drew))
  clear h hwa hl
  go_enter Try.func31, Try.ntmps31
  go_upto_region 1 with fail
  rw [← HWA.out]
  go_upto_region 38 with fail
  clear c0 c1 c2 c3 c4 c5 c6 c7
  go_region_held3 (fun W => W.cell? ⟨w.heap.size, 0, none⟩ = some (.pointer (some ⟨r, 0, none⟩)) ∧ W.cell? ⟨w.heap.size, 1, none⟩ = some (.pointer (some ⟨d, 0, none⟩))) ((first | exact HKEEP.out _ (by assumption) | exact HKEEP.out _ HPD.out))
    ((first | (go_at_call 12; refine (HCR.out _ HPD.out).mono ?_; rintro en z1 ⟨A1, k1, rfl, hpl1, hr1⟩) | (go_at_call 53; refine (HCD.out _ (by assumption)).mono ?_; rintro en z2 ⟨A2, k2, rfl, hpl2, hf2, hr2⟩; have hr3 := hr1.fr hf2 (by simp)) | (go_at_call 28; refine (pl_same hpl2 hr3 hr2).mono ?_; rintro en z3 ⟨rfl, hpl3⟩)))
  go_wp2_with fail
  go_ret
  exact hpl3.end

set_option maxRecDepth 100000 in
set_option maxHeartbeats 1600000 in
theorem plays_all {b0 r d : Nat} {a : RA} {Fp Fd : List Nat} {w : World} (h : PS b0 r d a a Fp Fd w) (t n x : Int) (s : Bool) (la : Option Addr) (ln lc : Nat) (hq : a.q.length ≤ 5000000000000) :
    Calls Try.prog 31 #[.agg #[.pointer (some ⟨r, 0, none⟩), .pointer (some ⟨d, 0, none⟩)], .agg #[.int .i64 13, .int .i64 t, .int .i64 n, .int .i64 x, .bool s, .slice la ln lc]] w (PO b0 r d a (Fp ++ Fd) w) := by
  have HP0 := Lib.hid (Pl.start2 h 61 48 #[.pointer (some ⟨r, 0, none⟩), .pointer (some ⟨d, 0, none⟩)] #[.int .i64 13, .int .i64 t, .int .i64 n, .int .i64 x, .bool s, .slice la ln lc])
  obtain ⟨wa, hwa⟩ : ∃ wa, wa = (w.alloc (.cells #[.pointer (some ⟨r, 0, none⟩), .pointer (some ⟨d, 0, none⟩)] 61)).alloc (.cells #[.int .i64 13, .int .i64 t, .int .i64 n, .int .i64 x, .bool s, .slice la ln lc] 48) := ⟨_, rfl⟩
  rw [← hwa] at HP0
  have HWA := Lib.hid hwa
  have hws : wa.heap.size = w.heap.size + 2 := by rw [hwa]; simp
  obtain ⟨c0, c1, c2, c3, c4, c5, c6, c7⟩ := HP0.out.cells8
  obtain ⟨l, hl⟩ : ∃ l, rootsA a = l := ⟨_, rfl⟩
  have HCR : Hid (∀ Z, Pl b0 r d (Fp ++ Fd) w [(w.heap.size, 61, #[.pointer (some ⟨r, 0, none⟩), .pointer (some ⟨d, 0, none⟩)]), (w.heap.size + 1, 48, #[.int .i64 13, .int .i64 t, .int .i64 n, .int .i64 x, .bool s, .slice la ln lc])] a a Z → Calls Try.prog 11 #[.pointer (some ⟨r, 0, none⟩)] Z (PL b0 r d (Fp ++ Fd) w [(w.heap.size, 61, #[.pointer (some ⟨r, 0, none⟩), .pointer (some ⟨d, 0, none⟩)]), (w.heap.size + 1, 48, #[.int .i64 13, .int .i64 t, .int .i64 n, .int .i64 x, .bool s, .slice la ln lc])] a a l Z)) := fun Z hz => by rw [← hl]; exact pl_all hz hq
  have HCD : Hid (∀ Z, Pl b0 r d (Fp ++ Fd) w [(w.heap.size, 61, #[.pointer (some ⟨r, 0, none⟩), .pointer (some ⟨d, 0, none⟩)]), (w.heap.size + 1, 48, #[.int .i64 13, .int .i64 t, .int .i64 n, .int .i64 x, .bool s, .slice la ln lc])] a a Z → Calls Try.prog 54 #[.pointer (some ⟨d, 0, none⟩)] Z (PLn b0 r d (Fp ++ Fd) w [(w.heap.size, 61, #[.pointer (some ⟨r, 0, none⟩), .pointer (some ⟨d, 0, none⟩)]), (w.heap.size + 1, 48, #[.int .i64 13, .int .i64 t, .int .i64 n, .int .i64 x, .bool s, .slice la ln lc])] a a l Z)) := fun Z hz => by rw [← hl]; exact pl_dall hz hq
  have HKEEP : Hid (∀ Z, Pl b0 r d (Fp ++ Fd) w [(w.heap.size, 61, #[.pointer (some ⟨r, 0, none⟩), .pointer (some ⟨d, 0, none⟩)]), (w.heap.size + 1, 48, #[.int .i64 13, .int .i64 t, .int .i64 n, .int .i64 x, .bool s, .slice la ln lc])] a a Z → Z.cell? ⟨w.heap.size, 0, none⟩ = some (.pointer (some ⟨r, 0, none⟩)) ∧ Z.cell? ⟨w.heap.size, 1, none⟩ = some (.pointer (some ⟨d, 0, none⟩))) := fun Z hz => by
    obtain ⟨d0, d1, d2, d3, d4, d5, d6, d7⟩ := hz.cells8
    exact ⟨d0, d1⟩
  have HPD := Lib.hid (HP0.out.nil ((Fr.refl [] wa).drew))
  clear h hwa hl
  go_enter Try.func31, Try.ntmps31
  go_upto_region 1 with fail
  rw [← HWA.out]
  go_upto_region 40 with fail
  clear c0 c1 c2 c3 c4 c5 c6 c7
  go_region_held3 (fun W => W.cell? ⟨w.heap.size, 0, none⟩ = some (.pointer (some ⟨r, 0, none⟩)) ∧ W.cell? ⟨w.heap.size, 1, none⟩ = some (.pointer (some ⟨d, 0, none⟩))) ((first | exact HKEEP.out _ (by assumption) | exact HKEEP.out _ HPD.out))
    ((first | (go_at_call 11; refine (HCR.out _ HPD.out).mono ?_; rintro en z1 ⟨A1, k1, rfl, hpl1, hr1⟩) | (go_at_call 54; refine (HCD.out _ (by assumption)).mono ?_; rintro en z2 ⟨A2, k2, rfl, hpl2, hf2, hr2⟩; have hr3 := hr1.fr hf2 (by simp)) | (go_at_call 28; refine (pl_same hpl2 hr3 hr2).mono ?_; rintro en z3 ⟨rfl, hpl3⟩)))
  go_wp2_with fail
  go_ret
  exact hpl3.end

end Go.Proofs.Ytdjemkgnhohcdaa
namespace Go.Proofs.Ytdjemkgnhohcdaa
open Go.RowKit
set_option linter.unusedVariables false

theorem Lst.boxed {w : World} {base n c : Nat} {A : Option Addr} {l : List Int} (h : Lst w base 3 1 (.slice A n c) n (iV l)) (hn : n = l.length) :
    ∃ Bx : List (Nat × TypeId × Array Value), (∀ p ∈ Bx, base ≤ p.1 ∧ Bk w p.1 p.2.1 p.2.2) ∧ ∀ Z : World, (∀ p ∈ Bx, Bk Z p.1 p.2.1 p.2.2) → RdI Z A l := by
  cases ho : (Value.slice A n c).ownBlock with
  | none =>
    refine ⟨[], by simp, fun Z _ => ?_⟩
    have h0 : n = 0 := by
      rcases h.2 with ⟨_, h0⟩ | ⟨g, off, cap, cur, hv, _⟩
      · exact h0
      · rw [hv] at ho
        simp [Value.ownBlock] at ho
    have : l = [] := List.eq_nil_of_length_eq_zero (by omega)
    rw [this]
    exact RdI.nil _ _
  | some k =>
    obtain ⟨cs, hb⟩ := h.bk ho
    refine ⟨[(k, 3, cs)], fun p hp => ?_, fun Z hZ => ?_⟩
    · obtain rfl : p = (k, 3, cs) := by simpa using hp
      exact ⟨(h.lt k ho).1, hb⟩
    · have hz := hZ (k, 3, cs) (by simp)
      exact (h.of_block (w' := Z) (fun j hj => by
        rw [ho] at hj
        injection hj with hj
        subst hj
        exact (show Z.heap[k]? = _ from hz).trans (show w.heap[k]? = _ from hb).symm)).rdi hn
theorem Pl.asked {b0 r d : Nat} {a e : RA} {F : List Nat} {w0 w : World} {Bx : List (Nat × TypeId × Array Value)} (h : Pl b0 r d F w0 Bx a e w) (hF : ∀ x ∈ F, x < w0.heap.size) :
    ∃ Fp, RS b0 w r a Fp ∧ b0 ≤ w.heap.size ∧ (∀ x ∈ Fp, b0 ≤ x ∧ x < w.heap.size) ∧ ∀ (a' : RA) (Bx2 : List (Nat × TypeId × Array Value)) (w' : World), RS b0 w' r a' Fp → Fr Fp w w' → (∀ p ∈ Bx2, w.heap.size ≤ p.1 ∧ Bk w' p.1 p.2.1 p.2.2) → Pl b0 r d F w0 (Bx2 ++ Bx) a' e w' := by
  obtain ⟨Fp, Fd, h1, h2⟩ := h.ps
  refine ⟨Fp, h1.rs, h1.hb, fun x hx => h1.lt x (List.mem_append_left _ hx), fun a' Bx2 w' hr hf hb => ⟨⟨Fp, Fd, h1.stepX hr hf h1.ap (fun x hx => .inl hx), fun x hx => ?_⟩, h.fr.trans hf (fun x hx => (h2 x (List.mem_append_left _ hx)).imp id (fun h => h.1)), fun p hp => ?_, fun p hp hx => ?_⟩⟩
  · rcases h2 x hx with k | ⟨k1, k2⟩
    · exact .inl k
    · refine .inr ⟨k1, fun p hp => ?_⟩
      rcases List.mem_append.1 hp with hp | hp
      · have := (hb p hp).1
        have := (h1.lt x hx).2
        omega
      · exact k2 p hp
  · rcases List.mem_append.1 hp with hp | hp
    · exact (hb p hp).2
    · exact (h.bx p hp).fr hf (fun hx => h.fd_far h2 p hp (List.mem_append_left _ hx))
  · rcases List.mem_append.1 hp with hp | hp
    · have h3 := (hb p hp).1
      have h4 := hF p.1 hx
      have h5 := h.fr.size
      omega
    · exact h.far p hp hx

theorem Pl.more {b0 r d : Nat} {a e : RA} {F : List Nat} {w0 w w' : World} {Bx : List (Nat × TypeId × Array Value)} (h : Pl b0 r d F w0 Bx a e w) (hF : ∀ x ∈ F, x < w0.heap.size) (hf : Fr [] w w') (Bx2 : List (Nat × TypeId × Array Value)) (hb : ∀ p ∈ Bx2, w.heap.size ≤ p.1 ∧ Bk w' p.1 p.2.1 p.2.2) : Pl b0 r d F w0 (Bx2 ++ Bx) a e w' := by
  obtain ⟨Fp, Fd, h1, h2⟩ := h.ps
  refine ⟨⟨Fp, Fd, h1.nil hf, fun x hx => ?_⟩, h.fr.trans hf (by simp), fun p hp => ?_, fun p hp hx => ?_⟩
  · rcases h2 x hx with k | ⟨k1, k2⟩
    · exact .inl k
    · refine .inr ⟨k1, fun p hp => ?_⟩
      rcases List.mem_append.1 hp with hp | hp
      · have := (hb p hp).1
        have := (h1.lt x hx).2
        omega
      · exact k2 p hp
  · rcases List.mem_append.1 hp with hp | hp
    · exact (hb p hp).2
    · exact (h.bx p hp).fr hf (by simp)
  · rcases List.mem_append.1 hp with hp | hp
    · have h3 := (hb p hp).1
      have h4 := hF p.1 hx
      have h5 := h.fr.size
      omega
    · exact h.far p hp hx

set_option maxRecDepth 100000 in
set_option maxHeartbeats 3200000 in
theorem plays_update {b0 r d : Nat} {a : RA} {Fp Fd : List Nat} {w : World} (h : PS b0 r d a a Fp Fd w) (t n x : Int) (s : Bool) (la : Option Addr) (ln lc : Nat) (hq : a.q.length ≤ 5000000000000) (ans : List Int) (hna : ln = ans.length) (hto : RdI w la ans) (hlo : ∀ ad, dA la ans = some ad → ad.block < b0) :
    Calls Try.prog 31 #[.agg #[.pointer (some ⟨r, 0, none⟩), .pointer (some ⟨d, 0, none⟩)], .agg #[.int .i64 14, .int .i64 t, .int .i64 n, .int .i64 x, .bool s, .slice la ln lc]] w (PO b0 r d (updA (ansA ans) a).2 (Fp ++ Fd) w) := by
  have HP0 := Lib.hid (Pl.start2 h 61 48 #[.pointer (some ⟨r, 0, none⟩), .pointer (some ⟨d, 0, none⟩)] #[.int .i64 14, .int .i64 t, .int .i64 n, .int .i64 x, .bool s, .slice la ln lc])
  obtain ⟨wa, hwa⟩ : ∃ wa, wa = (w.alloc (.cells #[.pointer (some ⟨r, 0, none⟩), .pointer (some ⟨d, 0, none⟩)] 61)).alloc (.cells #[.int .i64 14, .int .i64 t, .int .i64 n, .int .i64 x, .bool s, .slice la ln lc] 48) := ⟨_, rfl⟩
  rw [← hwa] at HP0
  have HWA := Lib.hid hwa
  have hws : wa.heap.size = w.heap.size + 2 := by rw [hwa]; simp
  have hflt : ∀ x ∈ Fp ++ Fd, x < w.heap.size := fun x hx => (h.lt x hx).2
  have hfb : ∀ x ∈ Fp ++ Fd, b0 ≤ x := fun x hx => (h.lt x hx).1
  obtain ⟨c0, c1, c2, c3, c4, c5, c6, c7⟩ := HP0.out.cells8
  obtain ⟨l, hl⟩ : ∃ l, rootsA a = l := ⟨_, rfl⟩
  obtain ⟨a', ha'⟩ : ∃ a', (updA (ansA ans) a).2 = a' := ⟨_, rfl⟩
  have HLE : Hid (rootsA a = l ∧ (updA (ansA ans) a).1 = l ∧ (updA (ansA ans) a).2 = a') := ⟨hl, by rw [upd_met]; exact hl, ha'⟩
  have HTO : Hid (∀ Z, Fr (Fp ++ Fd) w Z → RdI Z la ans) := fun Z hf => hto.frd hf (fun ad ha hx => by
    have := hlo ad ha
    have := hfb _ hx
    omega)
  have HLO := Lib.hid hlo
  have HNA := Lib.hid hna
  rw [ha']
  obtain ⟨wb, hwb⟩ : ∃ wb, wb = wa.alloc (.cells #[.slice la ln lc, .slice none 0 0] 56) := ⟨_, rfl⟩
  have HWB := Lib.hid hwb
  have hbs : wb.heap.size = wa.heap.size + 1 := by rw [hwb]; simp
  have hab : Fr [] wa wb := by rw [hwb]; exact (Fr.refl _ _).alloc _
  have hB : Bk wb wa.heap.size 56 #[.slice la ln lc, .slice none 0 0] := by rw [hwb]; exact Bk.new _ _ _
  obtain ⟨Fq, R1, hb1, hlt1, hnx⟩ := HP0.out.asked hflt
  have hwaz := HP0.out.fr.size
  have HC1 := Lib.hid (update_any (R1.nil hab) (Nat.le_trans hb1 hab.size) hq la ln lc ans hB (fun hx => by have := (hlt1 _ hx).2; omega) hna (HTO.out wb (HP0.out.fr.trans hab (by simp))) (fun ad had => by
    have h1 := hlo ad had
    refine ⟨by omega, by omega, fun hx => ?_⟩
    have := (hlt1 _ hx).1
    omega))
  have HN1 : Hid (∀ en w1, UpdR b0 r wa.heap.size a Fq la ln lc ans wb en w1 → en = .returned (.tuple #[]) ∧ ∃ Av cv Bx2, (∀ Z, (∀ p ∈ Bx2, Bk Z p.1 p.2.1 p.2.2) → RdI Z Av l) ∧ Pl b0 r d (Fp ++ Fd) w ((wa.heap.size, 56, #[.slice la ln lc, .slice Av l.length cv]) :: Bx2 ++ [(w.heap.size, 61, #[.pointer (some ⟨r, 0, none⟩), .pointer (some ⟨d, 0, none⟩)]), (w.heap.size + 1, 48, #[.int .i64 14, .int .i64 t, .int .i64 n, .int .i64 x, .bool s, .slice la ln lc])]) a' a w1) := fun en w1 hu => by
    obtain ⟨h1, v, h2, h3, h4, h5⟩ := hu
    rw [HLE.out.2.1] at h3
    rw [HLE.out.2.2] at h4
    obtain ⟨Av, cv, rfl, _, _⟩ := h3.look
    obtain ⟨Bx2, q1, q2⟩ := h3.boxed rfl
    refine ⟨h1, Av, cv, Bx2, q2, hnx a' (_ :: Bx2) w1 h4 ?_ (fun p hp => ?_)⟩
    · refine (hab.mono (T := Fq) (by simp)).trans h5 (fun z hz => ?_)
      rcases List.mem_cons.1 hz with e | e
      · exact .inr (by omega)
      · exact .inl e
    · rcases List.mem_cons.1 hp with rfl | hp
      · exact ⟨Nat.le_refl _, h2⟩
      · exact ⟨by have := (q1 p hp).1; omega, (q1 p hp).2⟩
  have d0 : wb.cell? ⟨w.heap.size, 0, none⟩ = some (.pointer (some ⟨r, 0, none⟩)) := ((HP0.out.nil hab).cells8).1
  rw [hws] at HC1 HN1
  have HFLT := Lib.hid hflt
  clear h hwa hto hlo hna hl ha' R1 hb1 hlt1 hnx hB hab hwb
  go_enter Try.func31, Try.ntmps31
  go_upto_region 1 with fail
  rw [← HWA.out]
  go_upto_region 43 with fail
  rw [← HWB.out]
  clear c0 c1 c2 c3 c4 c5 c6 c7
  go_wp2_with fail
  refine (Calls.mono HC1.out ?_)
  rintro en w1 hu
  obtain ⟨rfl, Av, cv, Bx2, hrd, hp1⟩ := HN1.out _ _ hu
  have HRD := Lib.hid hrd
  have HP1 := Lib.hid hp1
  have d1 : w1.cell? ⟨w.heap.size, 1, none⟩ = some (.pointer (some ⟨d, 0, none⟩)) := (hp1.bx (w.heap.size, 61, #[.pointer (some ⟨r, 0, none⟩), .pointer (some ⟨d, 0, none⟩)]) (by simp)).cell 1
  obtain ⟨Fd1, D1, _, _, _⟩ := hp1.do_
  have HC2 := Lib.hid (dall_any D1 hq)
  rw [HLE.out.1] at HC2
  clear hu hrd hp1 d0 D1
  go_wp2_with fail
  refine (Calls.mono HC2.out ?_)
  rintro en w2 ⟨v2, rfl, hl2, hf2⟩
  obtain ⟨A2, c2, rfl, _, _⟩ := hl2.look
  obtain ⟨Bx3, q1, q2⟩ := hl2.boxed rfl
  have hp2 := HP1.out.more HFLT.out hf2 Bx3 q1
  have HP2 := Lib.hid hp2
  have HRD2 := Lib.hid q2
  have e1 : w2.cell? ⟨w.heap.size, 1, none⟩ = some (.pointer (some ⟨d, 0, none⟩)) := (hp2.bx (w.heap.size, 61, #[.pointer (some ⟨r, 0, none⟩), .pointer (some ⟨d, 0, none⟩)]) (by simp)).cell 1
  have e5 : w2.cell? ⟨w.heap.size + 1, 5, none⟩ = some (.slice la ln lc) := (hp2.bx (w.heap.size + 1, 48, #[.int .i64 14, .int .i64 t, .int .i64 n, .int .i64 x, .bool s, .slice la ln lc]) (by simp)).cell 5
  obtain ⟨Fd2, D2, hb2, hdb2, hs2⟩ := hp2.do_
  have HC3 := Lib.hid (dlay_any D2 hq la ln lc ans HNA.out (HTO.out w2 hp2.fr) (fun ad had hx => by
    have h1 := HLO.out ad had
    have := hdb2 _ hx
    omega))
  rw [HLE.out.2.2] at HC3
  have HS2 := Lib.hid hs2
  clear hp2 D2 hb2 hdb2 hs2 hl2 hf2 d1 q1 q2
  go_wp2_with fail
  refine (Calls.mono HC3.out ?_)
  rintro en w3 ho
  obtain ⟨rfl, hp3⟩ := HS2.out _ _ _ _ ho
  have HP3 := Lib.hid hp3
  have f1 : w3.cell? ⟨w.heap.size + 2, 1, none⟩ = some (.slice Av l.length cv) := (hp3.bx (w.heap.size + 2, 56, #[.slice la ln lc, .slice Av l.length cv]) (by simp)).cell 1
  have hr1 := HRD.out w3 (fun p hp => hp3.bx p (by simp [hp]))
  have hr2 := HRD2.out w3 (fun p hp => hp3.bx p (by simp [hp]))
  have HC4 := Lib.hid (pl_same (c := cv) (c' := c2) hp3 hr1 hr2)
  clear ho hp3 hr1 hr2 e1 e5
  go_wp2_with fail
  refine (Calls.mono HC4.out ?_)
  rintro en w4 ⟨rfl, hp4⟩
  have HP4 := Lib.hid hp4
  clear hp4
  go_wp2_with fail
  go_ret
  exact HP4.out.end
end Go.Proofs.Ytdjemkgnhohcdaa
namespace Go.Proofs.Ytdjemkgnhohcdaa
open Go.RowKit
set_option linter.unusedVariables false

set_option maxRecDepth 100000 in
set_option maxHeartbeats 3200000 in
theorem whole_any {b0 r d : Nat} {a : RA} {Fp Fd : List Nat} {w : World} (h : PS b0 r d a a Fp Fd w) (T : Nat) (hT : T ≤ 8) (hq : a.q.length ≤ 5000000000000) :
    Calls Try.prog 32 #[.agg #[.pointer (some ⟨r, 0, none⟩), .pointer (some ⟨d, 0, none⟩)], .int .i64 T] w (PO b0 r d a (Fp ++ Fd) w) := by
  have HP0 := Lib.hid (Pl.start1 h 61 #[.pointer (some ⟨r, 0, none⟩), .pointer (some ⟨d, 0, none⟩)])
  obtain ⟨lA, hlA⟩ : ∃ l, rootsA a = l := ⟨_, rfl⟩
  obtain ⟨lH, hlH⟩ : ∃ l, handlesA a = l := ⟨_, rfl⟩
  obtain ⟨lQ, hlQ⟩ : ∃ l, a.q = l := ⟨_, rfl⟩
  obtain ⟨lF, hlF⟩ : ∃ l : Int → List Int, ∀ i, framesA a i = l i := ⟨_, fun _ => rfl⟩
  have HRF : Hid (∀ Z (i : Int), Pl b0 r d (Fp ++ Fd) w [(w.heap.size, 61, #[.pointer (some ⟨r, 0, none⟩), .pointer (some ⟨d, 0, none⟩)])] a a Z → Calls Try.prog 20 #[.pointer (some ⟨r, 0, none⟩), .int .i64 i] Z (PL b0 r d (Fp ++ Fd) w [(w.heap.size, 61, #[.pointer (some ⟨r, 0, none⟩), .pointer (some ⟨d, 0, none⟩)])] a a (lF i) Z)) := fun Z i hz => by rw [← hlF i]; exact pl_frames hz i
  have HDF : Hid (∀ Z (i : Int), Pl b0 r d (Fp ++ Fd) w [(w.heap.size, 61, #[.pointer (some ⟨r, 0, none⟩), .pointer (some ⟨d, 0, none⟩)])] a a Z → Calls Try.prog 44 #[.pointer (some ⟨d, 0, none⟩), .int .i64 i] Z (PLn b0 r d (Fp ++ Fd) w [(w.heap.size, 61, #[.pointer (some ⟨r, 0, none⟩), .pointer (some ⟨d, 0, none⟩)])] a a (lF i) Z)) := fun Z i hz => by rw [← hlF i]; exact pl_dframes hz i
  have HRA : Hid (∀ Z, Pl b0 r d (Fp ++ Fd) w [(w.heap.size, 61, #[.pointer (some ⟨r, 0, none⟩), .pointer (some ⟨d, 0, none⟩)])] a a Z → Calls Try.prog 11 #[.pointer (some ⟨r, 0, none⟩)] Z (PL b0 r d (Fp ++ Fd) w [(w.heap.size, 61, #[.pointer (some ⟨r, 0, none⟩), .pointer (some ⟨d, 0, none⟩)])] a a lA Z)) := fun Z hz => by rw [← hlA]; exact pl_all hz hq
  have HDA : Hid (∀ Z, Pl b0 r d (Fp ++ Fd) w [(w.heap.size, 61, #[.pointer (some ⟨r, 0, none⟩), .pointer (some ⟨d, 0, none⟩)])] a a Z → Calls Try.prog 54 #[.pointer (some ⟨d, 0, none⟩)] Z (PLn b0 r d (Fp ++ Fd) w [(w.heap.size, 61, #[.pointer (some ⟨r, 0, none⟩), .pointer (some ⟨d, 0, none⟩)])] a a lA Z)) := fun Z hz => by rw [← hlA]; exact pl_dall hz hq
  have HRH : Hid (∀ Z, Pl b0 r d (Fp ++ Fd) w [(w.heap.size, 61, #[.pointer (some ⟨r, 0, none⟩), .pointer (some ⟨d, 0, none⟩)])] a a Z → Calls Try.prog 13 #[.pointer (some ⟨r, 0, none⟩)] Z (PL b0 r d (Fp ++ Fd) w [(w.heap.size, 61, #[.pointer (some ⟨r, 0, none⟩), .pointer (some ⟨d, 0, none⟩)])] a a lH Z)) := fun Z hz => by rw [← hlH]; exact pl_handles hz
  have HDH : Hid (∀ Z, Pl b0 r d (Fp ++ Fd) w [(w.heap.size, 61, #[.pointer (some ⟨r, 0, none⟩), .pointer (some ⟨d, 0, none⟩)])] a a Z → Calls Try.prog 50 #[.pointer (some ⟨d, 0, none⟩)] Z (PLn b0 r d (Fp ++ Fd) w [(w.heap.size, 61, #[.pointer (some ⟨r, 0, none⟩), .pointer (some ⟨d, 0, none⟩)])] a a lH Z)) := fun Z hz => by rw [← hlH]; exact pl_dhandles hz
  have HRQ : Hid (∀ Z, Pl b0 r d (Fp ++ Fd) w [(w.heap.size, 61, #[.pointer (some ⟨r, 0, none⟩), .pointer (some ⟨d, 0, none⟩)])] a a Z → Calls Try.prog 12 #[.pointer (some ⟨r, 0, none⟩)] Z (PL b0 r d (Fp ++ Fd) w [(w.heap.size, 61, #[.pointer (some ⟨r, 0, none⟩), .pointer (some ⟨d, 0, none⟩)])] a a lQ Z)) := fun Z hz => by rw [← hlQ]; exact pl_queue hz hq
  have HDQ : Hid (∀ Z, Pl b0 r d (Fp ++ Fd) w [(w.heap.size, 61, #[.pointer (some ⟨r, 0, none⟩), .pointer (some ⟨d, 0, none⟩)])] a a Z → Calls Try.prog 53 #[.pointer (some ⟨d, 0, none⟩)] Z (PLn b0 r d (Fp ++ Fd) w [(w.heap.size, 61, #[.pointer (some ⟨r, 0, none⟩), .pointer (some ⟨d, 0, none⟩)])] a a lQ Z)) := fun Z hz => by rw [← hlQ]; exact pl_dqueue hz hq
  have HKEEP : Hid (∀ Z, Pl b0 r d (Fp ++ Fd) w [(w.heap.size, 61, #[.pointer (some ⟨r, 0, none⟩), .pointer (some ⟨d, 0, none⟩)])] a a Z → Z.cell? ⟨w.heap.size, 0, none⟩ = some (.pointer (some ⟨r, 0, none⟩)) ∧ Z.cell? ⟨w.heap.size, 1, none⟩ = some (.pointer (some ⟨d, 0, none⟩))) := fun Z hz => by
    have hb := hz.bx (w.heap.size, 61, #[.pointer (some ⟨r, 0, none⟩), .pointer (some ⟨d, 0, none⟩)]) (by simp)
    exact ⟨hb.cell 0, hb.cell 1⟩
  clear h hlA hlH hlQ hlF
  go_enter Try.func32, Try.ntmps32
  go_wp2_with fail
  go_loopw [5] (fun j wr => ∃ i : Nat, i ≤ T ∧ j = .int .i64 i ∧ Hid (Pl b0 r d (Fp ++ Fd) w [(w.heap.size, 61, #[.pointer (some ⟨r, 0, none⟩), .pointer (some ⟨d, 0, none⟩)])] a a wr)) (fun j _ => T - (intOf j).toNat)
  case atStart => exact ⟨0, by omega, rfl, HP0.out⟩
  case round =>
    obtain ⟨i, hi, rfl, HX⟩ := hrel
    have HPD := Lib.hid (HX.out.nil ((Fr.refl [] wr).drew))
    by_cases hlt : i < T
    · have i4 : decide ((i : Int) < (T : Int)) = true := decide_eq_true (by omega)
      go_upto_region 4 with fail
      go_region_held3 (fun W => W.cell? ⟨w.heap.size, 0, none⟩ = some (.pointer (some ⟨r, 0, none⟩)) ∧ W.cell? ⟨w.heap.size, 1, none⟩ = some (.pointer (some ⟨d, 0, none⟩))) ((first | exact HKEEP.out _ (by assumption) | exact HKEEP.out _ HPD.out))
        ((first | (go_at_call 20; refine (HRF.out _ _ (by first | assumption | exact HPD.out)).mono ?_; rintro en f1 ⟨Af1, kf1, rfl, hplf1, hrf1⟩) | (go_at_call 44; refine (HDF.out _ _ (by assumption)).mono ?_; rintro en f2 ⟨Af2, kf2, rfl, hplf2, hff2, hrf2⟩; have hrf3 := hrf1.fr hff2 (by simp)) | (go_at_call 28; refine (pl_same (by assumption) (by assumption) (by assumption)).mono ?_; rintro en zs ⟨rfl, hpls⟩)))
      have HXF := Lib.hid hpls
      clear hplf1 hplf2 hpls hrf1 hrf2 hrf3 hff2
      go_wp2_with fail
      go_roundw
      case rel => exact ⟨i + 1, by omega, by go_num, HXF.out⟩
      case measure => simp [intOf]; omega
    · obtain rfl : i = T := by omega
      have i4 : decide ((i : Int) < (i : Int)) = false := decide_eq_false (by omega)
      go_upto_region 6 with fail
      go_region_held3 (fun W => W.cell? ⟨w.heap.size, 0, none⟩ = some (.pointer (some ⟨r, 0, none⟩)) ∧ W.cell? ⟨w.heap.size, 1, none⟩ = some (.pointer (some ⟨d, 0, none⟩))) ((first | exact HKEEP.out _ (by assumption) | exact HKEEP.out _ HPD.out))
        ((first | (go_at_call 11; refine (HRA.out _ (by first | assumption | exact HPD.out)).mono ?_; rintro en a1 ⟨Aa1, ka1, rfl, hpla1, hra1⟩) | (go_at_call 54; refine (HDA.out _ (by assumption)).mono ?_; rintro en a2 ⟨Aa2, ka2, rfl, hpla2, hfa2, hra2⟩; have hra3 := hra1.fr hfa2 (by simp)) | (go_at_call 13; refine (HRH.out _ (by first | assumption | exact HPD.out)).mono ?_; rintro en h1 ⟨Ah1, kh1, rfl, hplh1, hrh1⟩) | (go_at_call 50; refine (HDH.out _ (by assumption)).mono ?_; rintro en h2 ⟨Ah2, kh2, rfl, hplh2, hfh2, hrh2⟩; have hrh3 := hrh1.fr hfh2 (by simp)) | (go_at_call 12; refine (HRQ.out _ (by first | assumption | exact HPD.out)).mono ?_; rintro en q1 ⟨Aq1, kq1, rfl, hplq1, hrq1⟩) | (go_at_call 53; refine (HDQ.out _ (by assumption)).mono ?_; rintro en q2 ⟨Aq2, kq2, rfl, hplq2, hfq2, hrq2⟩; have hrq3 := hrq1.fr hfq2 (by simp)) | (go_at_call 28; refine (pl_same (by assumption) (by assumption) (by assumption)).mono ?_; rintro en zs ⟨rfl, hpls⟩)))
      have HXF := Lib.hid hpls
      go_wp2_with fail
      go_ret
      exact HXF.out.end
end Go.Proofs.Ytdjemkgnhohcdaa
namespace Go.Proofs.Ytdjemkgnhohcdaa
open Go.RowKit
set_option linter.unusedVariables false

/-- One step of a script, Update among them. -/
def playB (a : RA) (o : Oq) (ans : List Int) : RA := if o.k = 14 then (updA (ansA ans) a).2 else playA a o
theorem playB_q (a : RA) (o : Oq) (ans : List Int) : (playB a o ans).q.length ≤ a.q.length + 1 := by
  unfold playB
  split
  · rw [upd_q]; omega
  · exact playA_q a o

theorem plays_any {b0 r d : Nat} {a : RA} {Fp Fd : List Nat} {w : World} (h : PS b0 r d a a Fp Fd w) (o : Oq) (hn : -9223372036854775808 ≤ o.n ∧ o.n ≤ 9223372036854775807) (hq : a.q.length ≤ 5000000000000) (ans : List Int) (hna : o.ln = ans.length) (hto : RdI w o.la ans) (hlo : ∀ ad, dA o.la ans = some ad → ad.block < b0) :
    Calls Try.prog 31 #[.agg #[.pointer (some ⟨r, 0, none⟩), .pointer (some ⟨d, 0, none⟩)], .agg #[.int .i64 o.k, .int .i64 o.t, .int .i64 o.n, .int .i64 o.a, .bool o.s, .slice o.la o.ln o.lc]] w (PO b0 r d (playB a o ans) (Fp ++ Fd) w) := by
  obtain ⟨k, t, n, x, s, la, ln, lc⟩ := o
  by_cases h14 : k = 14
  · subst h14
    exact plays_update h t n x s la ln lc hq ans hna hto hlo
  · have e : playB a ⟨k, t, n, x, s, la, ln, lc⟩ ans = playA a ⟨k, t, n, x, s, la, ln, lc⟩ := by unfold playB; rw [if_neg h14]
    rw [e]
    by_cases h1 : k = 1
    · subst h1; exact plays_push h t n x s la ln lc
    by_cases h2 : k = 2
    · subst h2; exact plays_pop h t n x s la ln lc
    by_cases h3 : k = 3
    · subst h3; exact plays_frames h t n x s la ln lc
    by_cases h4 : k = 4
    · subst h4; exact plays_get h t n x s la ln lc hn
    by_cases h5 : k = 5
    · subst h5; exact plays_set h t n x s la ln lc hn
    by_cases h6 : k = 6
    · subst h6; exact plays_open h t n x s la ln lc
    by_cases h7 : k = 7
    · subst h7; exact plays_handle h t n x s la ln lc
    by_cases h8 : k = 8
    · subst h8; exact plays_close h t n x s la ln lc
    by_cases h9 : k = 9
    · subst h9; exact plays_handles h t n x s la ln lc
    by_cases h10 : k = 10
    · subst h10; exact plays_enq h t n x s la ln lc hq
    by_cases h11 : k = 11
    · subst h11; exact plays_deq h t n x s la ln lc hq
    by_cases h12 : k = 12
    · subst h12; exact plays_queue h t n x s la ln lc hq
    by_cases h13 : k = 13
    · subst h13; exact plays_all h t n x s la ln lc hq
    have e2 : playA a ⟨k, t, n, x, s, la, ln, lc⟩ = a := by
      unfold playA
      simp only
      rw [if_neg h1, if_neg h2, if_neg h5, if_neg h6, if_neg h8, if_neg h10, if_neg h11]
    rw [e2]
    exact plays_none h t n x s la ln lc k (fun j hj1 hj2 => by omega)

theorem RS.weak {b0 b1 : Nat} {w : World} {g : Nat} {a : RA} {F : List Nat} (h : RS b0 w g a F) (hb : b1 ≤ b0) : RS b1 w g a F := by
  obtain ⟨R, h1, h2, h3⟩ := h
  exact ⟨R, ⟨h1.B, h1.Th, fun t ht => (h1.Fs t ht).mono hb, h1.Fr, h1.Hd, h1.Q.mono hb, h1.ndI, h1.ndF, fun x hx => Nat.le_trans hb (h1.base x hx), h1.ok, h1.room, h1.one⟩, h2, h3⟩
theorem DS.weak {b0 b1 : Nat} {w : World} {g : Nat} {a : RA} {F : List Nat} (h : DS b0 w g a F) (hb : b1 ≤ b0) : DS b1 w g a F := by
  obtain ⟨R, h1, h2, h3⟩ := h
  exact ⟨R, ⟨h1.B, h1.Th.mono hb, ⟨fun i p hi => (h1.P.at_ i p hi).mono hb, h1.P.apart⟩, Nat.le_trans hb h1.gb, h1.ok, h1.room, h1.one, h1.nn⟩, h2, h3⟩

/-- New ones of the document's. -/
theorem made_ds {w w' : World} {S T H g : Nat} (h : RMade w S T H g w') (hT : T ≤ 8) (hS : S ≤ 4096) (hH : H ≤ 1024) : ∃ F, DS w.heap.size w' g (newA T S H) F ∧ Fr [] w w' := by
  obtain ⟨tv, hv, hb, ht, hh, hf, hg⟩ := h
  have hflat : ∀ k : Nat, (List.replicate k (⟨.slice none 0 0, .slice none 0 0, []⟩ : Dt)).flatMap (fun t => [t.v1, t.v2]) = List.replicate (k * 2) (.slice none 0 0) := fun k => by
    induction k with
    | zero => rfl
    | succ k ih => rw [List.replicate_succ, List.flatMap_cons, ih, show (k + 1) * 2 = k * 2 + 1 + 1 by omega, List.replicate_succ, List.replicate_succ]; rfl
  have hhs : hsL (List.replicate H (false, (0 : Int))) = List.replicate H (-1) := by unfold hsL; simp
  have hrep : ∀ {t : Dt}, t ∈ List.replicate T (⟨.slice none 0 0, .slice none 0 0, []⟩ : Dt) → t = ⟨.slice none 0 0, .slice none 0 0, []⟩ := fun ht => (List.mem_replicate.1 ht).2
  refine ⟨_, ⟨⟨tv, S, List.replicate T ⟨.slice none 0 0, .slice none 0 0, []⟩, hv, List.replicate H (false, 0), .slice none 0 0, []⟩, ⟨hb, ?_, ⟨fun i p hi => ?_, fun i j p q k hne hi hj hp hq => ?_⟩, hg, ⟨by simpa using hT, hS, by simpa using hH⟩, fun t ht => ?_, fun t ht l hl => ?_, fun p hp => ?_⟩, ?_, rfl⟩, hf⟩
  · rw [hflat]
    simpa using ht
  · rcases Dr.M_inv hi with ⟨rfl, rfl⟩ | ⟨rfl, rfl⟩ | ⟨k, t, ht2, h2⟩
    · simp only [hhs]
      unfold iV
      simpa using hh
    · exact Lst.nil _ _ _ _
    · have ht3 : (List.replicate T (⟨.slice none 0 0, .slice none 0 0, []⟩ : Dt))[k]? = some t := ht2
      obtain rfl := hrep (List.mem_of_getElem? ht3)
      rcases h2 with ⟨rfl, rfl⟩ | ⟨rfl, rfl⟩ <;> exact Lst.nil _ _ _ _
  · have none_ : ∀ (m : Nat) (x : Value × List Int), (Dr.M ⟨tv, S, List.replicate T ⟨.slice none 0 0, .slice none 0 0, []⟩, hv, List.replicate H (false, 0), .slice none 0 0, []⟩)[m]? = some x → m ≠ 0 → x.1.ownBlock = none := fun m x hm h0 => by
      rcases Dr.M_inv hm with ⟨rfl, rfl⟩ | ⟨rfl, rfl⟩ | ⟨k, t, ht2, h2⟩
      · exact absurd rfl h0
      · rfl
      · have ht3 : (List.replicate T (⟨.slice none 0 0, .slice none 0 0, []⟩ : Dt))[k]? = some t := ht2
        obtain rfl := hrep (List.mem_of_getElem? ht3)
        rcases h2 with ⟨rfl, rfl⟩ | ⟨rfl, rfl⟩ <;> rfl
    by_cases h0 : i = 0
    · have := none_ j q hj (by omega)
      rw [this] at hq
      cases hq
    · have := none_ i p hi h0
      rw [this] at hp
      cases hp
  · have ht3 : t ∈ List.replicate T (⟨.slice none 0 0, .slice none 0 0, []⟩ : Dt) := ht
    obtain rfl := hrep ht3
    simp [sumL]
  · have ht3 : t ∈ List.replicate T (⟨.slice none 0 0, .slice none 0 0, []⟩ : Dt) := ht
    obtain rfl := hrep ht3
    cases hl
  · have hp3 : p ∈ List.replicate H (false, (0 : Int)) := hp
    obtain rfl := (List.mem_replicate.1 hp3).2
    exact Int.le_refl _
  · unfold Dr.abs newA
    simp

/-- Two pairs beside one another, boxes beside them. -/
structure Qd (w0 : World) (r d s v : Nat) (Bx : List (Nat × TypeId × Array Value)) (a1 a2 : RA) (w : World) : Prop where
  ps : ∃ F1 G1 F2 G2, PS w0.heap.size r d a1 a1 F1 G1 w ∧ PS w0.heap.size s v a2 a2 F2 G2 w ∧ (∀ x ∈ F1 ++ G1, x ∉ F2 ++ G2) ∧ ∀ p ∈ Bx, p.1 ∉ F1 ++ G1 ∧ p.1 ∉ F2 ++ G2
  fr : Fr [] w0 w
  bx : ∀ p ∈ Bx, Bk w p.1 p.2.1 p.2.2
section
variable {w0 w w' : World} {r d s v : Nat} {Bx : List (Nat × TypeId × Array Value)} {a1 a2 : RA}
theorem Qd.nil (h : Qd w0 r d s v Bx a1 a2 w) (hf : Fr [] w w') : Qd w0 r d s v Bx a1 a2 w' := by
  obtain ⟨F1, G1, F2, G2, h1, h2, h3, h4⟩ := h.ps
  exact ⟨⟨F1, G1, F2, G2, h1.nil hf, h2.nil hf, h3, h4⟩, h.fr.trans hf (by simp), fun p hp => (h.bx p hp).fr hf (by simp)⟩
theorem Qd.box (h : Qd w0 r d s v Bx a1 a2 w) (hf : Fr [] w w') {k : Nat} {t : TypeId} {cs : Array Value} (hk : w.heap.size ≤ k) (hb : Bk w' k t cs) : Qd w0 r d s v ((k, t, cs) :: Bx) a1 a2 w' := by
  obtain ⟨F1, G1, F2, G2, h1, h2, h3, h4⟩ := h.ps
  refine ⟨⟨F1, G1, F2, G2, h1.nil hf, h2.nil hf, h3, fun p hp => ?_⟩, h.fr.trans hf (by simp), fun p hp => ?_⟩
  · rcases List.mem_cons.1 hp with rfl | hp
    · exact ⟨fun hx => by have := (h1.lt _ hx).2; simp only at this; omega, fun hx => by have := (h2.lt _ hx).2; simp only at this; omega⟩
    · exact h4 p hp
  · rcases List.mem_cons.1 hp with rfl | hp
    · exact hb
    · exact (h.bx p hp).fr hf (by simp)
theorem Qd.less {p : Nat × TypeId × Array Value} (h : Qd w0 r d s v (p :: Bx) a1 a2 w) : Qd w0 r d s v Bx a1 a2 w := by
  obtain ⟨F1, G1, F2, G2, h1, h2, h3, h4⟩ := h.ps
  exact ⟨⟨F1, G1, F2, G2, h1, h2, h3, fun p hp => h4 p (List.mem_cons_of_mem _ hp)⟩, h.fr, fun p hp => h.bx p (List.mem_cons_of_mem _ hp)⟩
theorem Qd.one (h : Qd w0 r d s v Bx a1 a2 w) : ∃ F G, PS w0.heap.size r d a1 a1 F G w ∧ ∀ (a' : RA) (en : Ending) (w' : World), PO w0.heap.size r d a' (F ++ G) w en w' → en = .returned (.bool true) ∧ Qd w0 r d s v Bx a' a2 w' := by
  obtain ⟨F1, G1, F2, G2, h1, h2, h3, h4⟩ := h.ps
  refine ⟨F1, G1, h1, fun a' en w' ho => ?_⟩
  obtain ⟨k1, F', G', k2, k3, k4⟩ := ho
  refine ⟨k1, ⟨F', G', F2, G2, k2, h2.fr k3 (fun x hx hx' => h3 x hx' hx), fun x hx hx' => ?_, fun p hp => ⟨fun hx => ?_, (h4 p hp).2⟩⟩, h.fr.trans k3 (fun x hx => .inr (h1.lt x hx).1), fun p hp => (h.bx p hp).fr k3 (h4 p hp).1⟩
  · rcases k4 x hx with k | k
    · exact h3 x k hx'
    · have := (h2.lt x hx').2
      omega
  · rcases k4 p.1 hx with k | k
    · exact (h4 p hp).1 k
    · have := (h.bx p hp).lt
      omega
theorem Qd.two (h : Qd w0 r d s v Bx a1 a2 w) : ∃ F G, PS w0.heap.size s v a2 a2 F G w ∧ ∀ (a' : RA) (en : Ending) (w' : World), PO w0.heap.size s v a' (F ++ G) w en w' → en = .returned (.bool true) ∧ Qd w0 r d s v Bx a1 a' w' := by
  obtain ⟨F1, G1, F2, G2, h1, h2, h3, h4⟩ := h.ps
  refine ⟨F2, G2, h2, fun a' en w' ho => ?_⟩
  obtain ⟨k1, F', G', k2, k3, k4⟩ := ho
  refine ⟨k1, ⟨F1, G1, F', G', h1.fr k3 (fun x hx hx' => h3 x hx hx'), k2, fun x hx hx' => ?_, fun p hp => ⟨(h4 p hp).1, fun hx => ?_⟩⟩, h.fr.trans k3 (fun x hx => .inr (h2.lt x hx).1), fun p hp => (h.bx p hp).fr k3 (h4 p hp).2⟩
  · rcases k4 x hx' with k | k
    · exact h3 x hx k
    · have := (h1.lt x hx).2
      omega
  · rcases k4 p.1 hx with k | k
    · exact (h4 p hp).2 k
    · have := (h.bx p hp).lt
      omega
end
/-- All four made, one behind the other. -/
theorem Qd.start {w0 w1 w2 w3 w4 : World} {r d s v T S H : Nat} (hT : 1 ≤ T ∧ T ≤ 8) (hS : 1 ≤ S ∧ S ≤ 4096) (hH : H ≤ 1024)
    (h1 : ∃ F, RS w0.heap.size w1 r (newA T S H) F) (f1 : Fr [] w0 w1) (h2 : RMade w1 S T H d w2) (h3 : ∃ F, RS w2.heap.size w3 s (newA T S H) F) (f3 : Fr [] w2 w3) (h4 : RMade w3 S T H v w4) :
    Qd w0 r d s v [] (newA T S H) (newA T S H) w4 := by
  obtain ⟨F1, k1⟩ := h1
  obtain ⟨G1, k2, f2⟩ := made_ds h2 hT.2 hS.2 hH
  obtain ⟨F2, k3⟩ := h3
  obtain ⟨G2, k4, f4⟩ := made_ds h4 hT.2 hS.2 hH
  have z1 := f1.size
  have z2 := f2.size
  have z3 := f3.size
  have z4 := f4.size
  have f24 : Fr [] w2 w4 := f3.trans f4 (by simp)
  refine ⟨⟨F1, G1, F2, G2, ⟨(k1.nil f2).nil f24, (k2.nil f24).weak z1, fun x hx hx' => ?_, by omega⟩, ⟨(k3.nil f4).weak (by omega), k4.weak (by omega), fun x hx hx' => ?_, by omega⟩, fun x hx hx' => ?_, by simp⟩, (f1.trans f2 (by simp)).trans f24 (by simp), by simp⟩
  · have a := k1.lt x hx
    have b := (k2.lt x hx').1
    omega
  · have a := k3.lt x hx
    have b := (k4.lt x hx').1
    omega
  · have a : x < w2.heap.size := by
      rcases List.mem_append.1 hx with hx | hx
      · have := k1.lt x hx
        omega
      · exact (k2.lt x hx).2
    have b : w2.heap.size ≤ x := by
      rcases List.mem_append.1 hx' with hx | hx
      · exact k3.base x hx
      · have := (k4.lt x hx).1
        omega
    omega
end Go.Proofs.Ytdjemkgnhohcdaa
namespace Go.Proofs.Ytdjemkgnhohcdaa
open Go.RowKit
set_option linter.unusedVariables false

theorem RdO.cells {w : World} {b o : Nat} {l : List Oq} (h : RdO w (some ⟨b, o, none⟩) l) {i : Nat} {q : Oq} (hq : l[i]? = some q) : b < w.heap.size ∧ w.cell? ⟨b, o + i * 6, none⟩ = some (.int .i64 q.k) ∧ w.cell? ⟨b, o + i * 6 + 1, none⟩ = some (.int .i64 q.t) ∧ w.cell? ⟨b, o + i * 6 + 2, none⟩ = some (.int .i64 q.n) ∧
    w.cell? ⟨b, o + i * 6 + 3, none⟩ = some (.int .i64 q.a) ∧ w.cell? ⟨b, o + i * 6 + 4, none⟩ = some (.bool q.s) ∧ w.cell? ⟨b, o + i * 6 + 5, none⟩ = some (.slice q.la q.ln q.lc) := by
  obtain ⟨b', o', e, hb, hc⟩ := h.2 (by have := (List.getElem?_eq_some_iff.1 hq).1; omega)
  injection e with e
  injection e with e1 e2
  subst e1 e2
  exact ⟨hb, hc i q hq⟩

set_option maxRecDepth 100000 in
set_option maxHeartbeats 3200000 in
theorem all_st (T S H : Int) (A : Option Addr) (n c : Nat) (l : List Oq) (w : World) (hn : n = l.length) (hr : RdO w A l) (ht : ∀ o ∈ l, (-9223372036854775808 ≤ o.n ∧ o.n ≤ 9223372036854775807) ∧ ∃ t : List Int, o.ln = t.length ∧ RdI w o.la t) :
    Calls Try.prog 7 #[.int .i64 T, .int .i64 S, .int .i64 H, .slice A n c] w fun e w' => e = .returned (.bool true) ∧ Fr [] w w' := by
  by_cases hok : okNew T S H
  · obtain ⟨h1, h2, h3, h4, h5, h6⟩ := hok
    obtain ⟨t, rfl⟩ := Int.eq_ofNat_of_zero_le (show 0 ≤ T by omega)
    obtain ⟨S, rfl⟩ := Int.eq_ofNat_of_zero_le (show 0 ≤ S by omega)
    obtain ⟨H, rfl⟩ := Int.eq_ofNat_of_zero_le h5
    have ht1 : 1 ≤ t ∧ t ≤ 8 := by omega
    have hs1 : 1 ≤ S ∧ S ≤ 4096 := by omega
    have hh1 : H ≤ 1024 := by omega
    have hn2 : n ≤ 2200000000000 := by rw [hn]; exact hr.1
    have HR := Lib.hid hr
    have HT := Lib.hid ht
    have HN := Lib.hid hn
    obtain ⟨a0, ha0⟩ : ∃ a0, newA t S H = a0 := ⟨_, rfl⟩
    have HA0 : Hid (newA t S H = a0 ∧ a0.q.length = 0) := ⟨ha0, by rw [← ha0]; rfl⟩
    clear h1 h2 h3 h4 h5 h6 hr ht hn ha0
    go_enter Try.func7, Try.ntmps7
    go_wp2_with fail
    refine (new_sn (w0 := w) t S H ht1 hs1 hh1 (Fr.refl _ _)).mono ?_
    rintro e w1 ⟨r, F0, rfl, hsn, hfr⟩
    have H1 : Hid ((∃ F, RS w.heap.size w1 r (newA t S H) F) ∧ Fr [] w w1) := ⟨⟨F0, hsn.rs⟩, hfr⟩
    clear hsn hfr
    go_wp2_with fail
    refine (rnew_ok t S H _ ht1 hs1 hh1).mono ?_
    rintro e w2 ⟨d, rfl, hm⟩
    have H2 := Lib.hid hm
    clear hm
    go_wp2_with fail
    refine (new_sn (w0 := w2) t S H ht1 hs1 hh1 (Fr.refl _ _)).mono ?_
    rintro e w3 ⟨p, F0, rfl, hsn, hfr⟩
    have H3 : Hid ((∃ F, RS w2.heap.size w3 p (newA t S H) F) ∧ Fr [] w2 w3) := ⟨⟨F0, hsn.rs⟩, hfr⟩
    clear hsn hfr
    go_wp2_with fail
    refine (rnew_ok t S H _ ht1 hs1 hh1).mono ?_
    rintro e w4 ⟨v, rfl, hm⟩
    have HQ4 : Hid (Qd w r d p v [] a0 a0 w4) := by
      have := Qd.start ht1 hs1 hh1 H1.out.1 H1.out.2 H2.out H3.out.1 H3.out.2 hm
      rw [HA0.out.1] at this
      exact this
    clear hm
    go_upto_region 10 with fail
    obtain ⟨wb, hwb⟩ : ∃ wb, (w4.alloc (.cells #[.pointer (some ⟨r, 0, none⟩), .pointer (some ⟨d, 0, none⟩)] 61)).alloc (.cells #[.pointer (some ⟨p, 0, none⟩), .pointer (some ⟨v, 0, none⟩)] 61) = wb := ⟨_, rfl⟩
    have HQB : Hid (Qd w r d p v [(w4.heap.size + 1, 61, #[.pointer (some ⟨p, 0, none⟩), .pointer (some ⟨v, 0, none⟩)]), (w4.heap.size, 61, #[.pointer (some ⟨r, 0, none⟩), .pointer (some ⟨d, 0, none⟩)])] a0 a0 wb) := by
      have q1 := HQ4.out.box ((Fr.refl [] w4).alloc (.cells #[.pointer (some ⟨r, 0, none⟩), .pointer (some ⟨d, 0, none⟩)] 61)) (Nat.le_refl _) (Bk.new _ _ _)
      have q2 := q1.box ((Fr.refl [] _).alloc (.cells #[.pointer (some ⟨p, 0, none⟩), .pointer (some ⟨v, 0, none⟩)] 61)) (Nat.le_refl _) (Bk.new _ _ _)
      have e : (w4.alloc (.cells #[.pointer (some ⟨r, 0, none⟩), .pointer (some ⟨d, 0, none⟩)] 61)).heap.size = w4.heap.size + 1 := by simp
      rw [e, hwb] at q2
      exact q2
    rw [hwb]
    have hbs : w4.heap.size + 2 ≤ wb.heap.size := by rw [← hwb]; simp
    have H4S := Lib.hid HQ4.out.fr.size
    clear hwb
    go_wp2_with fail
    go_loopw [19] (fun j wr => ∃ k : Nat, k ≤ n ∧ j = .int .i64 k ∧ Hid (∃ a1 a2, a1.q.length ≤ k ∧ a2.q.length ≤ k ∧ Qd w r d p v [(w4.heap.size + 1, 61, #[.pointer (some ⟨p, 0, none⟩), .pointer (some ⟨v, 0, none⟩)]), (w4.heap.size, 61, #[.pointer (some ⟨r, 0, none⟩), .pointer (some ⟨d, 0, none⟩)])] a1 a2 wr)) (fun j _ => n - (intOf j).toNat)
    case atStart => exact ⟨0, by omega, rfl, a0, a0, by rw [HA0.out.2]; exact Nat.le_refl _, by rw [HA0.out.2]; exact Nat.le_refl _, HQB.out⟩
    case round =>
      obtain ⟨k, hk, rfl, hx⟩ := hrel
      obtain ⟨a1, a2, q1, q2, hq⟩ := hx.out
      have HQ := Lib.hid hq
      have hB1 := hq.bx (w4.heap.size, 61, #[.pointer (some ⟨r, 0, none⟩), .pointer (some ⟨d, 0, none⟩)]) (by simp)
      have hB2 := hq.bx (w4.heap.size + 1, 61, #[.pointer (some ⟨p, 0, none⟩), .pointer (some ⟨v, 0, none⟩)]) (by simp)
      have d0 := hB1.cell 0
      have d1 := hB1.cell 1
      have d2 := hB2.cell 0
      have d3 := hB2.cell 1
      have hgl := hB1.lt
      have hgl2 := hB2.lt
      have HQA : Hid (a1.q.length ≤ k ∧ a2.q.length ≤ k) := ⟨q1, q2⟩
      clear hx hq hB1 hB2 q1 q2
      by_cases hlt : k < n
      · obtain ⟨o, ho⟩ : ∃ o, l[k]? = some o := ⟨_, List.getElem?_eq_getElem (by have := HN.out; omega)⟩
        have HLK := Lib.hid ho
        obtain ⟨sb, so, rfl, hsb0, _⟩ := HR.out.2 (by have := HN.out; omega)
        obtain ⟨hsb, c0, c1, c2, c3, c4, c5⟩ := (HR.out.fr HQ.out.fr).cells ho
        have HO := Lib.hid (HT.out o (List.mem_of_getElem? ho))
        have i0 : (0 : Int) ≤ (k : Int) := by omega
        have i1 : (k : Int) < (n : Int) := by omega
        have i2 : decide ((k : Int) < (n : Int)) = true := decide_eq_true i1
        clear ho
        cases hos : o.s with
        | false =>
          rw [hos] at c4
          go_upto_region 16 with fail
          obtain ⟨wk, hwk⟩ : ∃ wk, wr.alloc (.cells #[.pointer (some ⟨r, 0, none⟩), .pointer (some ⟨d, 0, none⟩)] 61) = wk := ⟨_, rfl⟩
          have HQK : Hid (Qd w r d p v ((wr.heap.size, 61, #[.pointer (some ⟨r, 0, none⟩), .pointer (some ⟨d, 0, none⟩)]) :: [(w4.heap.size + 1, 61, #[.pointer (some ⟨p, 0, none⟩), .pointer (some ⟨v, 0, none⟩)]), (w4.heap.size, 61, #[.pointer (some ⟨r, 0, none⟩), .pointer (some ⟨d, 0, none⟩)])]) a1 a2 wk) := by
            have q2 := HQ.out.box ((Fr.refl [] wr).alloc (.cells #[.pointer (some ⟨r, 0, none⟩), .pointer (some ⟨d, 0, none⟩)] 61)) (Nat.le_refl _) (Bk.new _ _ _)
            rw [hwk] at q2
            exact q2
          rw [hwk]
          have HKEEP : Hid (∀ b1 b2 Z, Qd w r d p v ((wr.heap.size, 61, #[.pointer (some ⟨r, 0, none⟩), .pointer (some ⟨d, 0, none⟩)]) :: [(w4.heap.size + 1, 61, #[.pointer (some ⟨p, 0, none⟩), .pointer (some ⟨v, 0, none⟩)]), (w4.heap.size, 61, #[.pointer (some ⟨r, 0, none⟩), .pointer (some ⟨d, 0, none⟩)])]) b1 b2 Z → Z.cell? ⟨wr.heap.size, 0, none⟩ = some (.pointer (some ⟨r, 0, none⟩)) ∧ Z.cell? ⟨wr.heap.size, 1, none⟩ = some (.pointer (some ⟨d, 0, none⟩)) ∧ Z.cell? ⟨sb, so + k * 6, none⟩ = some (.int .i64 o.k) ∧ Z.cell? ⟨sb, so + k * 6 + 1, none⟩ = some (.int .i64 o.t) ∧ Z.cell? ⟨sb, so + k * 6 + 2, none⟩ = some (.int .i64 o.n) ∧ Z.cell? ⟨sb, so + k * 6 + 3, none⟩ = some (.int .i64 o.a) ∧ Z.cell? ⟨sb, so + k * 6 + 4, none⟩ = some (.bool false) ∧ Z.cell? ⟨sb, so + k * 6 + 5, none⟩ = some (.slice o.la o.ln o.lc)) := fun b1 b2 Z hz => by
            have hb := hz.bx (wr.heap.size, 61, #[.pointer (some ⟨r, 0, none⟩), .pointer (some ⟨d, 0, none⟩)]) (by simp)
            obtain ⟨_, k0, k1, k2, k3, k4, k5⟩ := (HR.out.fr hz.fr).cells HLK.out
            rw [hos] at k4
            exact ⟨hb.cell 0, hb.cell 1, k0, k1, k2, k3, k4, k5⟩
          have hqd := HQK.out.nil ((Fr.refl [] wk).drew)
          have HQD := Lib.hid hqd
          obtain ⟨ans, hna, hrd⟩ := HO.out.2
          obtain ⟨F, G, hps, hnx⟩ := hqd.one
          have HC := Lib.hid (plays_any hps o HO.out.1 (by have := HQA.out; omega) ans hna (hrd.fr hqd.fr (by simp)) hrd.dlt)
          rw [hos] at HC
          have HNX := Lib.hid hnx
          clear hwk d0 d1 d2 d3 c0 c1 c2 c3 c4 c5 hqd hps hnx hna hrd
          go_region_held3 (fun W => W.cell? ⟨wr.heap.size, 0, none⟩ = some (.pointer (some ⟨r, 0, none⟩)) ∧ W.cell? ⟨wr.heap.size, 1, none⟩ = some (.pointer (some ⟨d, 0, none⟩)) ∧ W.cell? ⟨sb, so + k * 6, none⟩ = some (.int .i64 o.k) ∧ W.cell? ⟨sb, so + k * 6 + 1, none⟩ = some (.int .i64 o.t) ∧ W.cell? ⟨sb, so + k * 6 + 2, none⟩ = some (.int .i64 o.n) ∧ W.cell? ⟨sb, so + k * 6 + 3, none⟩ = some (.int .i64 o.a) ∧ W.cell? ⟨sb, so + k * 6 + 4, none⟩ = some (.bool false) ∧ W.cell? ⟨sb, so + k * 6 + 5, none⟩ = some (.slice o.la o.ln o.lc)) ((first | exact HKEEP.out _ _ _ (by assumption) | exact HKEEP.out _ _ _ HQD.out))
            ((first | (go_at_call 31; refine (Calls.mono HC.out ?_); rintro en z1 hpo; obtain ⟨rfl, hq1⟩ := HNX.out _ _ _ hpo)))
          have HQ1 := Lib.hid hq1.less
          clear hq1 hpo
          go_wp2_with fail
          go_roundw
          case rel => exact ⟨k + 1, by omega, by go_num, playB a1 o ans, a2, by have := playB_q a1 o ans; have := HQA.out; omega, by have := HQA.out; omega, HQ1.out⟩
          case measure => simp [intOf]; omega
        | true =>
          rw [hos] at c4
          go_upto_region 16 with fail
          obtain ⟨wk, hwk⟩ : ∃ wk, wr.alloc (.cells #[.pointer (some ⟨p, 0, none⟩), .pointer (some ⟨v, 0, none⟩)] 61) = wk := ⟨_, rfl⟩
          have HQK : Hid (Qd w r d p v ((wr.heap.size, 61, #[.pointer (some ⟨p, 0, none⟩), .pointer (some ⟨v, 0, none⟩)]) :: [(w4.heap.size + 1, 61, #[.pointer (some ⟨p, 0, none⟩), .pointer (some ⟨v, 0, none⟩)]), (w4.heap.size, 61, #[.pointer (some ⟨r, 0, none⟩), .pointer (some ⟨d, 0, none⟩)])]) a1 a2 wk) := by
            have q2 := HQ.out.box ((Fr.refl [] wr).alloc (.cells #[.pointer (some ⟨p, 0, none⟩), .pointer (some ⟨v, 0, none⟩)] 61)) (Nat.le_refl _) (Bk.new _ _ _)
            rw [hwk] at q2
            exact q2
          rw [hwk]
          have HKEEP : Hid (∀ b1 b2 Z, Qd w r d p v ((wr.heap.size, 61, #[.pointer (some ⟨p, 0, none⟩), .pointer (some ⟨v, 0, none⟩)]) :: [(w4.heap.size + 1, 61, #[.pointer (some ⟨p, 0, none⟩), .pointer (some ⟨v, 0, none⟩)]), (w4.heap.size, 61, #[.pointer (some ⟨r, 0, none⟩), .pointer (some ⟨d, 0, none⟩)])]) b1 b2 Z → Z.cell? ⟨wr.heap.size, 0, none⟩ = some (.pointer (some ⟨p, 0, none⟩)) ∧ Z.cell? ⟨wr.heap.size, 1, none⟩ = some (.pointer (some ⟨v, 0, none⟩)) ∧ Z.cell? ⟨sb, so + k * 6, none⟩ = some (.int .i64 o.k) ∧ Z.cell? ⟨sb, so + k * 6 + 1, none⟩ = some (.int .i64 o.t) ∧ Z.cell? ⟨sb, so + k * 6 + 2, none⟩ = some (.int .i64 o.n) ∧ Z.cell? ⟨sb, so + k * 6 + 3, none⟩ = some (.int .i64 o.a) ∧ Z.cell? ⟨sb, so + k * 6 + 4, none⟩ = some (.bool true) ∧ Z.cell? ⟨sb, so + k * 6 + 5, none⟩ = some (.slice o.la o.ln o.lc)) := fun b1 b2 Z hz => by
            have hb := hz.bx (wr.heap.size, 61, #[.pointer (some ⟨p, 0, none⟩), .pointer (some ⟨v, 0, none⟩)]) (by simp)
            obtain ⟨_, k0, k1, k2, k3, k4, k5⟩ := (HR.out.fr hz.fr).cells HLK.out
            rw [hos] at k4
            exact ⟨hb.cell 0, hb.cell 1, k0, k1, k2, k3, k4, k5⟩
          have hqd := HQK.out.nil ((Fr.refl [] wk).drew)
          have HQD := Lib.hid hqd
          obtain ⟨ans, hna, hrd⟩ := HO.out.2
          obtain ⟨F, G, hps, hnx⟩ := hqd.two
          have HC := Lib.hid (plays_any hps o HO.out.1 (by have := HQA.out; omega) ans hna (hrd.fr hqd.fr (by simp)) hrd.dlt)
          rw [hos] at HC
          have HNX := Lib.hid hnx
          clear hwk d0 d1 d2 d3 c0 c1 c2 c3 c4 c5 hqd hps hnx hna hrd
          go_region_held3 (fun W => W.cell? ⟨wr.heap.size, 0, none⟩ = some (.pointer (some ⟨p, 0, none⟩)) ∧ W.cell? ⟨wr.heap.size, 1, none⟩ = some (.pointer (some ⟨v, 0, none⟩)) ∧ W.cell? ⟨sb, so + k * 6, none⟩ = some (.int .i64 o.k) ∧ W.cell? ⟨sb, so + k * 6 + 1, none⟩ = some (.int .i64 o.t) ∧ W.cell? ⟨sb, so + k * 6 + 2, none⟩ = some (.int .i64 o.n) ∧ W.cell? ⟨sb, so + k * 6 + 3, none⟩ = some (.int .i64 o.a) ∧ W.cell? ⟨sb, so + k * 6 + 4, none⟩ = some (.bool true) ∧ W.cell? ⟨sb, so + k * 6 + 5, none⟩ = some (.slice o.la o.ln o.lc)) ((first | exact HKEEP.out _ _ _ (by assumption) | exact HKEEP.out _ _ _ HQD.out))
            ((first | (go_at_call 31; refine (Calls.mono HC.out ?_); rintro en z1 hpo; obtain ⟨rfl, hq1⟩ := HNX.out _ _ _ hpo)))
          have HQ1 := Lib.hid hq1.less
          clear hq1 hpo
          go_wp2_with fail
          go_roundw
          case rel => exact ⟨k + 1, by omega, by go_num, a1, playB a2 o ans, by have := HQA.out; omega, by have := playB_q a2 o ans; have := HQA.out; omega, HQ1.out⟩
          case measure => simp [intOf]; omega
      · obtain rfl : n = k := by omega
        have i2 : decide ((n : Int) < (n : Int)) = false := decide_eq_false (by omega)
        obtain ⟨F, G, hps, hnx⟩ := HQ.out.one
        have HC := Lib.hid (whole_any hps t ht1.2 (by have := HQA.out; omega))
        have HNX := Lib.hid hnx
        clear hps hnx
        go_wp2_with fail
        refine (Calls.mono HC.out ?_)
        rintro en z1 hpo
        obtain ⟨rfl, hq1⟩ := HNX.out _ _ _ hpo
        have HQ1 := Lib.hid hq1
        have hB2 := hq1.bx (w4.heap.size + 1, 61, #[.pointer (some ⟨p, 0, none⟩), .pointer (some ⟨v, 0, none⟩)]) (by simp)
        have e2 := hB2.cell 0
        have e3 := hB2.cell 1
        obtain ⟨F, G, hps, hnx⟩ := hq1.two
        have HC2 := Lib.hid (whole_any hps t ht1.2 (by have := HQA.out; omega))
        have HNX2 := Lib.hid hnx
        clear hq1 hpo hps hnx d0 d1 d2 d3 hB2
        go_wp2_with fail
        refine (Calls.mono HC2.out ?_)
        rintro en z2 hpo
        obtain ⟨rfl, hq2⟩ := HNX2.out _ _ _ hpo
        have HQ2 := Lib.hid hq2.fr
        clear hpo hq2 e2 e3
        go_wp2_with fail
        go_ret
        exact ⟨rfl, HQ2.out⟩
  · clear hr ht
    go_enter Try.func7, Try.ntmps7
    go_wp2_with fail
    refine (new_bad T S H w hok).mono ?_
    rintro e w1 ⟨rfl, rfl⟩
    go_wp2_with fail
    refine (rnew_bad T S H w hok).mono ?_
    rintro e w1 ⟨rfl, rfl⟩
    go_wp2_with fail
    refine (new_bad T S H w hok).mono ?_
    rintro e w1 ⟨rfl, rfl⟩
    go_wp2_with fail
    go_ret
    exact ⟨rfl, Fr.refl _ _⟩
end Go.Proofs.Ytdjemkgnhohcdaa
