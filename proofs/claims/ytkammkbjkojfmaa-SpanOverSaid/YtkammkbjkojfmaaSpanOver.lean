/-
  law09.SpanOver: the walk.
-/
import Derived.Test.YtkammkbjkojfmaaSpAl
import Derived.Test.YtkammkbjkojfmaaSpF
import Derived.Test.YtkammkbjkojfmaaSpPl
import Derived.Test.YtkammkbjkojfmaaSpKn
namespace Go.Proofs.Ytkammkbjkojfmaa
open Go.RowKit Go.Maps

set_option maxRecDepth 100000 in
set_option maxHeartbeats 3200000 in
theorem SpanOver_any (w : World) (v : Value) (l : List Op3) (hv : SlP w v l) (hokv : okV v) (u : Value) (m : List Op3) (hu : SlP w u m) (hoku : okV u) :
    Calls Try.prog 4 #[v, u] w fun e w' => e = .returned (.bool true) ∧ Fr [] w w' := by
  obtain ⟨a, cap, rfl, _, _, _⟩ := hv.open
  obtain ⟨a', cap', rfl, _, _, _⟩ := hu.open
  go_enter Try.func4, Try.ntmps4
  go_wp2_with fail
  refine (fewL_calls _ l w hv).mono ?_
  rintro e w1 ⟨B, rfl, hB, hf1⟩
  cases B
  · clear hB
    go_wp2_with fail
    refine (aliveL_calls _).mono ?_
    rintro e w2 ⟨rfl, hf2⟩
    go_wp2
    go_ret
    exact ⟨rfl, hf1.trans0 hf2⟩
  have hl := (hB rfl).kinds
  clear hB
  go_wp2_with fail
  refine (fewL_calls _ m w1 (SlF.fr0 hu hf1)).mono ?_
  rintro e w2 ⟨B, rfl, hB, hf2⟩
  have hF2 := hf1.trans0 hf2
  cases B
  · clear hB
    go_wp2_with fail
    refine (aliveL_calls _).mono ?_
    rintro e w3 ⟨rfl, hf3⟩
    go_wp2
    go_ret
    exact ⟨rfl, hF2.trans0 hf3⟩
  have hm := (hB rfl).kinds
  clear hB
  go_wp2_with fail
  refine (aliveL_calls _).mono ?_
  rintro e w3 ⟨rfl, hf3⟩
  have hF3 := hF2.trans0 hf3
  go_wp2_with fail
  refine (sOver_calls _ _ l m w3 (SlF.fr0 hv hF3) (SlF.fr0 hu hF3) hokv hoku).mono ?_
  rintro e w4 ⟨v4, rfl, o4, hf4⟩
  have hF4 := hF3.trans0 hf4
  have s4 : SlP w4 v4 (overE l m) := SlF.of_owns o4
  clear o4
  go_wp2_with fail
  refine (rOver_calls _ _ l m w4 (SlF.fr0 hv hF4) (SlF.fr0 hu hF4) (by omega) (by omega)).mono ?_
  rintro e w5 ⟨v5, rfl, s5, hf5⟩
  have hF5 := hF4.trans0 hf5
  have s4b := SlF.fr0 s4 hf5
  go_wp2_with fail
  refine (SameExt_calls _ _ _ _ w5 s4b s5).mono ?_
  rintro e w6 ⟨rfl, hf6⟩
  rw [show decide (overE l m = overE l m) = true by simp]
  have hF6 := hF5.trans0 hf6
  clear s4 s4b s5
  go_wp2_with fail
  refine (sOver_calls _ _ l l w6 (SlF.fr0 hv hF6) (SlF.fr0 hv hF6) hokv hokv).mono ?_
  rintro e w7 ⟨v7, rfl, o7, hf7⟩
  have hF7 := hF6.trans0 hf7
  have s7 : SlP w7 v7 (overE l l) := SlF.of_owns o7
  clear o7
  go_wp2_with fail
  refine (sNorm_calls _ l w7 (SlF.fr0 hv hF7)).mono ?_
  rintro e w8 ⟨v8, rfl, s8, hf8, _⟩
  have hF8 := hF7.trans0 hf8
  have s7b := SlF.fr0 s7 hf8
  go_wp2_with fail
  refine (SameExt_calls _ _ _ _ w8 s7b s8).mono ?_
  rintro e w9 ⟨rfl, hf9⟩
  rw [show decide (overE l l = ofE (kindsE l)) = true by simp [over_self]]
  go_wp2
  go_ret
  exact ⟨rfl, hF8.trans0 hf9⟩
end Go.Proofs.Ytkammkbjkojfmaa
