/-
  law09.SpanThree: the walk.
-/
import Derived.Test.YtkammkbjkojfmaaSpAl
import Derived.Test.YtkammkbjkojfmaaSpF
import Derived.Test.YtkammkbjkojfmaaSpPl
import Derived.Test.YtkammkbjkojfmaaSpKn
namespace Go.Proofs.Ytkammkbjkojfmaa
open Go.RowKit Go.Maps

set_option maxRecDepth 100000 in
set_option maxHeartbeats 3200000 in
theorem SpanThree_any (w : World) (v : Value) (l : List Op3) (hv : SlP w v l) (hokv : okV v) (u : Value) (m : List Op3) (hu : SlP w u m) (hoku : okV u) (x : Value) (n : List Op3) (hx : SlP w x n) (hokx : okV x) :
    Calls Try.prog 6 #[v, u, x] w fun e w' => e = .returned (.bool true) ∧ Fr [] w w' := by
  obtain ⟨a, cap, rfl, _, _, _⟩ := hv.open
  obtain ⟨a', cap', rfl, _, _, _⟩ := hu.open
  obtain ⟨a2, cap2, rfl, _, _, _⟩ := hx.open
  go_enter Try.func6, Try.ntmps6
  go_wp2_with fail
  refine (fewL_calls _ l w (hv)).mono ?_
  rintro e w1 ⟨B, rfl, hB, hf1⟩
  have hF1 := hf1
  clear hB
  cases B
  · go_wp2_with fail
    refine (aliveL_calls _).mono ?_
    rintro e w20 ⟨rfl, hf20⟩
    go_wp2
    go_ret
    exact ⟨rfl, hF1.trans0 hf20⟩
  go_wp2_with fail
  refine (fewL_calls _ m w1 (SlF.fr0 hu hF1)).mono ?_
  rintro e w2 ⟨B, rfl, hB, hf2⟩
  have hF2 := hF1.trans0 hf2
  clear hB
  cases B
  · go_wp2_with fail
    refine (aliveL_calls _).mono ?_
    rintro e w20 ⟨rfl, hf20⟩
    go_wp2
    go_ret
    exact ⟨rfl, hF2.trans0 hf20⟩
  go_wp2_with fail
  refine (fewL_calls _ n w2 (SlF.fr0 hx hF2)).mono ?_
  rintro e w3 ⟨B, rfl, hB, hf3⟩
  have hF3 := hF2.trans0 hf3
  clear hB
  cases B
  · go_wp2_with fail
    refine (aliveL_calls _).mono ?_
    rintro e w20 ⟨rfl, hf20⟩
    go_wp2
    go_ret
    exact ⟨rfl, hF3.trans0 hf20⟩
  go_wp2_with fail
  refine (sRight_calls _ l w3 (SlF.fr0 hv hF3)).mono ?_
  rintro e w4 ⟨rfl, hf4⟩
  have hF4 := hF3.trans0 hf4
  generalize hrl : right l = rl at *
  cases rl
  · go_wp2_with fail
    refine (aliveL_calls _).mono ?_
    rintro e w20 ⟨rfl, hf20⟩
    go_wp2
    go_ret
    exact ⟨rfl, hF4.trans0 hf20⟩
  go_wp2_with fail
  refine (sRight_calls _ m w4 (SlF.fr0 hu hF4)).mono ?_
  rintro e w5 ⟨rfl, hf5⟩
  have hF5 := hF4.trans0 hf5
  generalize hrm : right m = rm at *
  cases rm
  · go_wp2_with fail
    refine (aliveL_calls _).mono ?_
    rintro e w20 ⟨rfl, hf20⟩
    go_wp2
    go_ret
    exact ⟨rfl, hF5.trans0 hf20⟩
  go_wp2_with fail
  refine (sRight_calls _ n w5 (SlF.fr0 hx hF5)).mono ?_
  rintro e w6 ⟨rfl, hf6⟩
  have hF6 := hF5.trans0 hf6
  generalize hrn : right n = rn at *
  cases rn
  · go_wp2_with fail
    refine (aliveL_calls _).mono ?_
    rintro e w20 ⟨rfl, hf20⟩
    go_wp2
    go_ret
    exact ⟨rfl, hF6.trans0 hf20⟩
  go_wp2_with fail
  refine (aliveL_calls _).mono ?_
  rintro e w7 ⟨rfl, hf7⟩
  have hF7 := hF6.trans0 hf7
  go_wp2_with fail
  refine (sOver_calls _ _ l m w7 (SlF.fr0 hv hF7) (SlF.fr0 hu hF7) hokv hoku).mono ?_
  rintro e w8 ⟨v8, rfl, o8, hf8⟩
  have hF8 := hF7.trans0 hf8
  have s8 : SlP w8 v8 (overE l m) := SlF.of_owns o8
  have k8 := okV.of_owns o8
  clear o8
  go_wp2_with fail
  refine (sOver_calls _ _ (overE l m) n w8 s8 (SlF.fr0 hx hF8) k8 hokx).mono ?_
  rintro e w9 ⟨v9, rfl, o9, hf9⟩
  have hF9 := hF8.trans0 hf9
  have s9 : SlP w9 v9 (overE (overE l m) n) := SlF.of_owns o9
  clear o9 s8 k8
  go_wp2_with fail
  refine (sOver_calls _ _ m n w9 (SlF.fr0 hu hF9) (SlF.fr0 hx hF9) hoku hokx).mono ?_
  rintro e w10 ⟨v10, rfl, o10, hf10⟩
  have hF10 := hF9.trans0 hf10
  have s10 : SlP w10 v10 (overE m n) := SlF.of_owns o10
  have k10 := okV.of_owns o10
  have s9b := SlF.fr0 s9 hf10
  clear o10 s9
  go_wp2_with fail
  refine (sOver_calls _ _ l (overE m n) w10 (SlF.fr0 hv hF10) s10 hokv k10).mono ?_
  rintro e w11 ⟨v11, rfl, o11, hf11⟩
  have hF11 := hF10.trans0 hf11
  have s11 : SlP w11 v11 (overE l (overE m n)) := SlF.of_owns o11
  have s9c := SlF.fr0 s9b hf11
  clear o11 s9b s10 k10
  go_wp2_with fail
  refine (SameExt_calls _ _ _ _ w11 s9c s11).mono ?_
  rintro e w12 ⟨rfl, hf12⟩
  rw [show decide (overE (overE l m) n = overE l (overE m n)) = true by simp [over_assoc hrl hrm hrn]]
  go_wp2
  go_ret
  exact ⟨rfl, hF11.trans0 hf12⟩
end Go.Proofs.Ytkammkbjkojfmaa
