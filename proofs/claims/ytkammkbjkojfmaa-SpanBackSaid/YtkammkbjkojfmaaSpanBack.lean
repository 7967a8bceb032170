/-
  law09.SpanBack: the walk.
-/
import Derived.Test.YtkammkbjkojfmaaSpAl
import Derived.Test.YtkammkbjkojfmaaSpF
import Derived.Test.YtkammkbjkojfmaaSpPl
import Derived.Test.YtkammkbjkojfmaaSpKn
namespace Go.Proofs.Ytkammkbjkojfmaa
open Go.RowKit Go.Maps

set_option maxRecDepth 100000 in
set_option maxHeartbeats 3200000 in
theorem SpanBack_any (w : World) (v : Value) (l : List Op3) (hv : SlP w v l) (_ : okV v) : Calls Try.prog 7 #[v] w fun e w' => e = .returned (.bool true) ∧ Fr [] w w' := by
  obtain ⟨a, cap, rfl, _, _, _⟩ := hv.open
  go_enter Try.func7, Try.ntmps7
  go_wp2_with fail
  refine (fewL_calls _ l w hv).mono ?_
  rintro e w1 ⟨B, rfl, hB, hf1⟩
  cases B
  · clear hB
    go_wp2_with fail
    refine (aliveL_calls _).mono ?_
    rintro e w2 ⟨rfl, hf2⟩
    go_wp2
    go_ret
    exact ⟨rfl, hf1.trans0 hf2⟩
  have hl := (hB rfl).kinds
  clear hB
  go_wp2_with fail
  refine (sNorm_calls _ l w1 (SlF.fr0 hv hf1)).mono ?_
  rintro e w2 ⟨v2, rfl, s2, hf2, _⟩
  have hF2 := hf1.trans0 hf2
  have hadj := adj_ofE (kindsE l)
  have hel := ofE_len (kindsE l)
  have hrt : right (ofE (kindsE l)) = true := right_ofE (by omega)
  have hkk : kindsE (ofE (kindsE l)) = kindsE l := kinds_ofE (by omega)
  obtain ⟨a2, c2, rfl, _, hcm2, _⟩ := s2.open
  have k1 := fun w hv => sNorm_calls (.slice a2 (ofE (kindsE l)).length c2) (ofE (kindsE l)) w hv
  have k2 := fun w hv => sRight_calls (.slice a2 (ofE (kindsE l)).length c2) (ofE (kindsE l)) w hv
  have k3 := fun w hv => sLong_calls (.slice a2 (ofE (kindsE l)).length c2) (ofE (kindsE l)) w hv
  have k4 := fun v w hv => Of_calls v (kindsE l) w hv (by omega)
  rw [hkk] at k1 k3
  rw [hrt] at k2
  clear hkk hrt
  generalize ofE (kindsE l) = E at *
  unfold maxLen at hcm2
  go_wp2_with fail
  go_loopw [4] (fun i wr => ∃ k : Nat, 1 ≤ k ∧ (k ≤ E.length ∨ k = 1) ∧ i = .int .i64 k ∧ Fr [] w2 wr ∧ Fr [] w wr) (fun i _ => E.length - (intOf i).toNat)
  case atStart => exact ⟨1, Nat.le_refl _, .inr rfl, rfl, Fr.refl _ _, hF2⟩
  case round =>
    clear hF2
    obtain ⟨k, hk1, hk, rfl, hF2, hF⟩ := hrel
    have s := SlF.fr0 s2 hF2
    by_cases hlt : k < E.length
    · have had := hadj (k - 1) (by omega)
      rw [show k - 1 + 1 = k by omega] at had
      obtain ⟨b, off, rfl, hb, c0, c1, c2'⟩ := SlP.at s hlt
      obtain ⟨b', off', hbb, hb', d0, d1, d2⟩ := SlP.at s (i := k - 1) (by omega)
      cases hbb
      have e1 : (k : Int) - 1 = ((k - 1 : Nat) : Int) := by omega
      have hw1 : IntKind.i64.wrap ((k - 1 : Nat) : Int) = ((k - 1 : Nat) : Int) := IntWalk.i64_in _ (by omega)
      have hlt1 : k - 1 < E.length := by omega
      generalize E.getD k z3 = x at *
      generalize E.getD (k - 1) z3 = y at *
      obtain ⟨x1, x2, x3⟩ := x
      obtain ⟨y1, y2, y3⟩ := y
      simp only at c0 c1 c2' d0 d1 d2 had
      have hne : ((x3 : Int) == y3) = false := by simpa using had
      go_wp2_with fail
      go_quiet (fail)
      go_wp2
      go_roundw
      case rel => exact ⟨k + 1, by omega, by omega, by go_num, hF2.drewN _, hF.drewN _⟩
      case measure => simp [intOf]; omega
    · clear hadj
      go_wp2_with fail
      refine (aliveL_calls _).mono ?_
      rintro e w3 ⟨rfl, hf3⟩
      have hF3 := hF.trans0 hf3
      go_wp2_with fail
      refine (sKinds_calls _ l w3 (SlF.fr0 hv hF3)).mono ?_
      rintro e w4 ⟨v4, rfl, s4, hf4, _⟩
      have hF4 := hF3.trans0 hf4
      go_wp2_with fail
      refine (k4 _ w4 s4).mono ?_
      rintro e w5 ⟨v5, rfl, s5, hf5⟩
      have hF5 := hF4.trans0 hf5
      have hG5 := ((hF2.trans0 hf3).trans0 hf4).trans0 hf5
      go_wp2_with fail
      refine (SameExt_calls _ _ _ _ w5 s5 (SlF.fr0 s2 hG5)).mono ?_
      rintro e w6 ⟨rfl, hf6⟩
      rw [show decide (E = E) = true by simp]
      have hF6 := hF5.trans0 hf6
      have hG6 := hG5.trans0 hf6
      go_wp2_with fail
      refine (k1 w6 (SlF.fr0 s2 hG6)).mono ?_
      rintro e w7 ⟨v7, rfl, s7, hf7, _⟩
      have hF7 := hF6.trans0 hf7
      have hG7 := hG6.trans0 hf7
      go_wp2_with fail
      refine (SameExt_calls _ _ _ _ w7 s7 (SlF.fr0 s2 hG7)).mono ?_
      rintro e w8 ⟨rfl, hf8⟩
      rw [show decide (E = E) = true by simp]
      have hF8 := hF7.trans0 hf8
      have hG8 := hG7.trans0 hf8
      go_wp2_with fail
      refine (k2 w8 (SlF.fr0 s2 hG8)).mono ?_
      rintro e w9 ⟨rfl, hf9⟩
      have hF9 := hF8.trans0 hf9
      have hG9 := hG8.trans0 hf9
      go_wp2_with fail
      refine (k3 w9 (SlF.fr0 s2 hG9)).mono ?_
      rintro e w10 ⟨rfl, hf10⟩
      have hF10 := hF9.trans0 hf10
      go_wp2_with fail
      refine (sLong_calls _ l w10 (SlF.fr0 hv hF10)).mono ?_
      rintro e w11 ⟨rfl, hf11⟩
      go_wp2
      go_ret
      exact ⟨rfl, hF10.trans0 hf11⟩
end Go.Proofs.Ytkammkbjkojfmaa
