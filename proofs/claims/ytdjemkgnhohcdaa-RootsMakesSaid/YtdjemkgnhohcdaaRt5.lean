/-
  RootsMakes: the statement's walk.
-/
import Derived.Test.YtdjemkgnhohcdaaRt4
namespace Go.Proofs.Ytdjemkgnhohcdaa
open Go.RowKit
set_option linter.unusedVariables false

set_option maxHeartbeats 1600000 in
theorem makes_any (T S H : Int) (w : World) :
    Calls Try.prog 3 #[.int .i64 T, .int .i64 S, .int .i64 H] w fun e w' => e = .returned (.bool true) ∧ Fr [] w w' := by
  by_cases h : okNew T S H
  · obtain ⟨h1, h2, h3, h4, h5, h6⟩ := h
    obtain ⟨t, rfl⟩ := Int.eq_ofNat_of_zero_le (show 0 ≤ T by omega)
    obtain ⟨s, rfl⟩ := Int.eq_ofNat_of_zero_le (show 0 ≤ S by omega)
    obtain ⟨n, rfl⟩ := Int.eq_ofNat_of_zero_le h5
    have ht : 1 ≤ t ∧ t ≤ 8 := by omega
    have hs : 1 ≤ s ∧ s ≤ 4096 := by omega
    have hn : n ≤ 1024 := by omega
    clear h1 h2 h3 h4 h5 h6
    have ht1 := ht.1
    go_enter Try.func3, Try.ntmps3
    go_wp2_with fail
    refine (new_ok t s n w ht hs hn).mono ?_
    rintro e w1 ⟨g, gT, gH, rfl, hf, hg, hgT, hgH, hF⟩
    have HF := Lib.hid hF
    have HR := Lib.hid hf
    have HG : Hid (w.heap.size ≤ gT) := hgT
    clear hF hf hg hgT hgH
    go_wp2_with fail
    refine (rnew_ok t s n _ ht hs hn).mono ?_
    rintro e w2 ⟨gr, rfl, _, _, _, _, _, hfr, _⟩
    have HF := Lib.hid (HF.out.fr hfr)
    have HR := Lib.hid (HR.out.trans hfr (by simp))
    clear hfr
    go_wp2_with fail
    refine (handle_fresh 0 w2 HF.out).mono ?_
    rintro e w3 ⟨rfl, rfl⟩
    go_wp2_with fail
    refine (all_fresh w2 HF.out).mono ?_
    rintro e w3 ⟨rfl, hfr⟩
    have HF := Lib.hid (HF.out.fr hfr)
    have HR := Lib.hid (HR.out.trans hfr (by simp))
    clear hfr
    go_wp2_with fail
    refine (queue_fresh w3 HF.out).mono ?_
    rintro e w4 ⟨rfl, rfl⟩
    go_wp2_with fail
    refine (handles_fresh w3 HF.out).mono ?_
    rintro e w4 ⟨v, rfl, hl, hfr⟩
    obtain ⟨A, cap, rfl, _, _⟩ := hl.look
    have HF := Lib.hid (HF.out.fr hfr)
    have HR := Lib.hid (HR.out.trans hfr (by simp))
    clear hl hfr
    go_wp2_with fail
    rw [show (t : Int) - 1 = ((t - 1 : Nat) : Int) from by omega]
    refine (pop_fresh w4 (t - 1) (by omega) HF.out).mono ?_
    rintro e w5 ⟨rfl, rfl⟩
    go_wp2_with fail
    refine (push_first w4 HF.out).mono ?_
    rintro e w5 ⟨gr1, gf1, cap1, rfl, hO, hfr⟩
    have HO := Lib.hid hO
    have HR := Lib.hid (HR.out.trans hfr (fun x hx => .inr (by have : x = gT := (by simpa using hx); subst this; exact HG.out)))
    clear hO hfr
    go_wp2_with fail
    refine (push_second w5 ht.1 ht.2 hs.1 hs.2 HO.out).mono ?_
    rintro e w6 ⟨rfl, rfl⟩
    go_wp2_with fail
    go_ret
    exact ⟨rfl, HR.out⟩
  · have HB := Lib.hid h
    clear h
    go_enter Try.func3, Try.ntmps3
    go_wp2_with fail
    refine (new_bad T S H w HB.out).mono ?_
    rintro e w1 ⟨rfl, rfl⟩
    go_wp2_with fail
    refine (rnew_bad T S H w HB.out).mono ?_
    rintro e w1 ⟨rfl, rfl⟩
    go_wp2_with fail
    go_ret
    exact ⟨rfl, Fr.refl _ _⟩
end Go.Proofs.Ytdjemkgnhohcdaa
