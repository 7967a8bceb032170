/-
  law09.SpanCuts: the walk.
-/
import Derived.Test.YtkammkbjkojfmaaSpAl
import Derived.Test.YtkammkbjkojfmaaSpF
import Derived.Test.YtkammkbjkojfmaaSpPl
import Derived.Test.YtkammkbjkojfmaaSpKn
namespace Go.Proofs.Ytkammkbjkojfmaa
open Go.RowKit Go.Maps

set_option maxRecDepth 100000 in
set_option maxHeartbeats 3200000 in
theorem SpanCuts_any (w : World) (v : Value) (l : List Op3) (hv : SlP w v l) (_ : okV v) (f : Int) (_ : -9223372036854775808 ≤ f ∧ f ≤ 9223372036854775807) (n : Int) (_ : -9223372036854775808 ≤ n ∧ n ≤ 9223372036854775807) :
    Calls Try.prog 3 #[v, .int .i64 f, .int .i64 n] w fun e w' => e = .returned (.bool true) ∧ Fr [] w w' := by
  obtain ⟨a, cap, rfl, _, _, _⟩ := hv.open
  go_enter Try.func3, Try.ntmps3
  go_wp2_with fail
  refine (fewL_calls _ l w hv).mono ?_
  rintro e w1 ⟨B, rfl, hB, hf1⟩
  cases B
  · clear hB
    go_wp2_with fail
    refine (aliveL_calls _).mono ?_
    rintro e w2 ⟨rfl, hf2⟩
    go_wp2
    go_ret
    exact ⟨rfl, hf1.trans0 hf2⟩
  have hl := (hB rfl).kinds
  clear hB
  go_wp2_with fail
  refine (sAt_calls _ l f w1 (SlF.fr0 hv hf1)).mono ?_
  rintro e w2 ⟨rfl, hf2⟩
  have hF2 := hf1.trans0 hf2
  go_wp2_with fail
  refine (rKinds_calls _ l w2 (SlF.fr0 hv hF2)).mono ?_
  rintro e w3 ⟨v3, rfl, s3, hf3, _⟩
  have hF3 := hF2.trans0 hf3
  obtain ⟨a3, c3, rfl, _, hcm3, _⟩ := s3.open
  unfold maxLen at hcm3
  by_cases hin : 0 ≤ f ∧ f < ((kindsE l).length : Int)
  · obtain ⟨h0, h1⟩ := hin
    have hr : right l = true := by
      rcases Bool.eq_false_or_eq_true (right l) with h | h
      · exact h
      · rw [kindsE_not h] at h1; simp at h1; omega
    obtain ⟨F, rfl⟩ := Int.eq_ofNat_of_zero_le h0
    have eB : atB l F = true := by
      unfold atB
      rw [kindsE_right hr] at h1
      rw [hr]
      simp only [Bool.true_and, Bool.and_eq_true, decide_eq_true_eq]
      exact ⟨by omega, h1⟩
    have eK : atK l F = (kindsE l).getD F 0 := by rw [kindsE_right hr, atK_getD hr]
    have hlt : F < (kindsE l).length := by omega
    rw [eB, eK]
    clear eB eK hr
    have keyC := fun w hv => sCut_calls (.slice a l.length cap) l F n w hv
    have keyR := fun w hv => rCut_calls (.slice a l.length cap) l F n w hv (by omega)
    generalize kindsE l = Z at *
    generalize hy : Z.getD F 0 = y at *
    replace hy := hidIt hy
    generalize cutE l F n = C at *
    go_wp2_with fail
    refine (aliveL_calls _).mono ?_
    rintro e w4 ⟨rfl, hf4⟩
    have hF4 := hF3.trans0 hf4
    go_wp2_with fail
    refine (keyC w4 (SlF.fr0 hv hF4)).mono ?_
    rintro e w5 ⟨v5, rfl, s5, hf5, _⟩
    have hF5 := hF4.trans0 hf5
    go_wp2_with fail
    refine (keyR w5 (SlF.fr0 hv hF5)).mono ?_
    rintro e w6 ⟨v6, rfl, s6, hf6⟩
    have hF6 := hF5.trans0 hf6
    have s5b := SlF.fr0 s5 hf6
    go_wp2_with fail
    refine (SameExt_calls _ _ _ _ w6 s5b s6).mono ?_
    rintro e w7 ⟨rfl, hf7⟩
    rw [show decide (C = C) = true by simp]
    have hF7 := hF6.trans0 hf7
    have s7 := SlF.fr0 s3 (((hf4.trans0 hf5).trans0 hf6).trans0 hf7)
    obtain ⟨b, off, rfl, hb, c0⟩ := SlI.at s7 hlt
    rw [hy.out] at c0
    go_wp2
    go_ret
    exact ⟨rfl, hF7⟩
  · have hno : ¬ (right l = true ∧ 0 ≤ f ∧ f < ((flatE l).length : Int)) := fun ⟨hr, h0, h1⟩ => hin ⟨h0, by rw [kindsE_right hr]; exact h1⟩
    have eK : atK l f = 0 := by unfold atK; rw [if_neg hno]
    have eB : atB l f = false := by
      rcases Bool.eq_false_or_eq_true (atB l f) with h | h
      · unfold atB at h
        simp only [Bool.and_eq_true, decide_eq_true_eq] at h
        exact absurd ⟨h.1, h.2.1, h.2.2⟩ hno
      · exact h
    rw [eB, eK]
    clear eB eK hno
    have keyC := fun w hv => sCut_calls (.slice a l.length cap) l f n w hv
    have keyR := fun w hv => rCut_calls (.slice a l.length cap) l f n w hv (by omega)
    generalize kindsE l = Z at *
    generalize cutE l f n = C at *
    by_cases h0 : 0 ≤ f
    · have h1 : ¬ f < (Z.length : Int) := fun h => hin ⟨h0, h⟩
      clear hin
      go_wp2_with fail
      refine (aliveL_calls _).mono ?_
      rintro e w4 ⟨rfl, hf4⟩
      have hF4 := hF3.trans0 hf4
      go_wp2_with fail
      refine (keyC w4 (SlF.fr0 hv hF4)).mono ?_
      rintro e w5 ⟨v5, rfl, s5, hf5, _⟩
      have hF5 := hF4.trans0 hf5
      go_wp2_with fail
      refine (keyR w5 (SlF.fr0 hv hF5)).mono ?_
      rintro e w6 ⟨v6, rfl, s6, hf6⟩
      have hF6 := hF5.trans0 hf6
      have s5b := SlF.fr0 s5 hf6
      go_wp2_with fail
      refine (SameExt_calls _ _ _ _ w6 s5b s6).mono ?_
      rintro e w7 ⟨rfl, hf7⟩
      rw [show decide (C = C) = true by simp]
      go_wp2
      go_ret
      exact ⟨rfl, hF6.trans0 hf7⟩
    · clear hin
      go_wp2_with fail
      refine (aliveL_calls _).mono ?_
      rintro e w4 ⟨rfl, hf4⟩
      have hF4 := hF3.trans0 hf4
      go_wp2_with fail
      refine (keyC w4 (SlF.fr0 hv hF4)).mono ?_
      rintro e w5 ⟨v5, rfl, s5, hf5, _⟩
      have hF5 := hF4.trans0 hf5
      go_wp2_with fail
      refine (keyR w5 (SlF.fr0 hv hF5)).mono ?_
      rintro e w6 ⟨v6, rfl, s6, hf6⟩
      have hF6 := hF5.trans0 hf6
      have s5b := SlF.fr0 s5 hf6
      go_wp2_with fail
      refine (SameExt_calls _ _ _ _ w6 s5b s6).mono ?_
      rintro e w7 ⟨rfl, hf7⟩
      rw [show decide (C = C) = true by simp]
      go_wp2
      go_ret
      exact ⟨rfl, hF6.trans0 hf7⟩
end Go.Proofs.Ytkammkbjkojfmaa
