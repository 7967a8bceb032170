/-
  law09.SpanKinds: the walk.
-/
import Derived.Test.YtkammkbjkojfmaaSpAl
import Derived.Test.YtkammkbjkojfmaaSpF
import Derived.Test.YtkammkbjkojfmaaSpPl
import Derived.Test.YtkammkbjkojfmaaSpKn
namespace Go.Proofs.Ytkammkbjkojfmaa
open Go.RowKit Go.Maps

set_option maxRecDepth 100000 in
set_option maxHeartbeats 3200000 in
theorem SpanKinds_yes (w : World) (v : Value) (ks : List Int) (hv : SlI w v ks) (u : Value) (m : List Op3) (hu : SlP w u m) (k : Int) (hk : ks.length ≤ 3000) :
    Calls Try.prog 10 #[v, u, .int .i64 k] w fun e w' => e = .returned (.bool true) ∧ Fr [] w w' := by
  obtain ⟨a, cap, rfl, _, _, _⟩ := hv.open
  obtain ⟨a', cap', rfl, _, _, _⟩ := hu.open
  have hk1 : ¬ (3000 : Int) < (ks.length : Int) := by omega
  go_enter Try.func10, Try.ntmps10
  go_wp2_with fail
  refine (fewL_calls _ m w hu).mono ?_
  rintro e w1 ⟨B, rfl, hB, hf1⟩
  cases B
  · clear hB
    go_wp2_with fail
    refine (aliveL_calls _).mono ?_
    rintro e w2 ⟨rfl, hf2⟩
    go_wp2
    go_ret
    exact ⟨rfl, hf1.trans0 hf2⟩
  have hm := (hB rfl).kinds
  clear hB
  go_wp2_with fail
  refine (Of_calls _ ks w1 (SlF.fr0 hv hf1) (by omega)).mono ?_
  rintro e w2 ⟨v2, rfl, s2, hf2⟩
  have hF2 := hf1.trans0 hf2
  go_wp2_with fail
  refine (rOf_calls _ ks w2 (SlF.fr0 hv hF2) (by omega)).mono ?_
  rintro e w3 ⟨v3, rfl, s3, hf3⟩
  have hF3 := hF2.trans0 hf3
  have s2b := SlF.fr0 s2 hf3
  go_wp2_with fail
  refine (SameExt_calls _ _ _ _ w3 s2b s3).mono ?_
  rintro e w4 ⟨rfl, hf4⟩
  rw [show decide (ofE ks = ofE ks) = true by simp]
  have hF4 := hF3.trans0 hf4
  clear s2 s2b s3
  go_wp2_with fail
  refine (sKinds_calls _ m w4 (SlF.fr0 hu hF4)).mono ?_
  rintro e w5 ⟨v5, rfl, s5, hf5, _⟩
  have hF5 := hF4.trans0 hf5
  go_wp2_with fail
  refine (rKinds_calls _ m w5 (SlF.fr0 hu hF5)).mono ?_
  rintro e w6 ⟨v6, rfl, s6, hf6, _⟩
  have hF6 := hF5.trans0 hf6
  have s5b := SlF.fr0 s5 hf6
  go_wp2_with fail
  refine (SameI_calls _ _ _ _ w6 s5b s6).mono ?_
  rintro e w7 ⟨rfl, hf7⟩
  rw [show decide (kindsE m = kindsE m) = true by simp]
  have hF7 := hF6.trans0 hf7
  clear s5 s5b s6
  go_wp2_with fail
  refine (sNorm_calls _ m w7 (SlF.fr0 hu hF7)).mono ?_
  rintro e w8 ⟨v8, rfl, s8, hf8, _⟩
  have hF8 := hF7.trans0 hf8
  go_wp2_with fail
  refine (rKinds_calls _ m w8 (SlF.fr0 hu hF8)).mono ?_
  rintro e w9 ⟨v9, rfl, s9, hf9, _⟩
  have hF9 := hF8.trans0 hf9
  have s8b := SlF.fr0 s8 hf9
  go_wp2_with fail
  refine (rOf_calls _ (kindsE m) w9 s9 (by omega)).mono ?_
  rintro e w10 ⟨v10, rfl, s10, hf10⟩
  have hF10 := hF9.trans0 hf10
  have s8c := SlF.fr0 s8b hf10
  go_wp2_with fail
  refine (SameExt_calls _ _ _ _ w10 s8c s10).mono ?_
  rintro e w11 ⟨rfl, hf11⟩
  rw [show decide (ofE (kindsE m) = ofE (kindsE m)) = true by simp]
  have hF11 := hF10.trans0 hf11
  clear s8 s8b s8c s9 s10
  go_wp2_with fail
  refine (aliveL_calls _).mono ?_
  rintro e w12 ⟨rfl, hf12⟩
  have hF12 := hF11.trans0 hf12
  go_wp2_with fail
  refine (sRight_calls _ m w12 (SlF.fr0 hu hF12)).mono ?_
  rintro e w13 ⟨rfl, hf13⟩
  have hF13 := hF12.trans0 hf13
  go_wp2_with fail
  refine (rRight_calls _ m w13 (SlF.fr0 hu hF13)).mono ?_
  rintro e w14 ⟨rfl, hf14⟩
  have hF14 := hF13.trans0 hf14
  go_wp2_with fail
  refine (sLong_calls _ m w14 (SlF.fr0 hu hF14)).mono ?_
  rintro e w15 ⟨rfl, hf15⟩
  have hF15 := hF14.trans0 hf15
  go_wp2_with fail
  refine (rKinds_calls _ m w15 (SlF.fr0 hu hF15)).mono ?_
  rintro e w16 ⟨v16, rfl, s16, hf16, _⟩
  have hF16 := hF15.trans0 hf16
  obtain ⟨a16, c16, rfl, _, _, _⟩ := s16.open
  go_wp2_with fail
  refine (sOnly_calls _ m k w16 (SlF.fr0 hu hF16)).mono ?_
  rintro e w17 ⟨v17, rfl, s17, hf17⟩
  have hF17 := hF16.trans0 hf17
  go_wp2_with fail
  refine (rOnly_calls _ m k w17 (SlF.fr0 hu hF17) (by omega)).mono ?_
  rintro e w18 ⟨v18, rfl, s18, hf18⟩
  have hF18 := hF17.trans0 hf18
  have s17b := SlF.fr0 s17 hf18
  go_wp2_with fail
  refine (SameExt_calls _ _ _ _ w18 s17b s18).mono ?_
  rintro e w19 ⟨rfl, hf19⟩
  rw [show decide (ofKind m k = ofKind m k) = true by simp]
  have hF19 := hF18.trans0 hf19
  clear s17 s17b s18 s16
  go_wp2_with fail
  refine (sTotal_calls _ m k w19 (SlF.fr0 hu hF19)).mono ?_
  rintro e w20 ⟨rfl, hf20⟩
  have hF20 := hF19.trans0 hf20
  go_wp2_with fail
  refine (rTotal_calls _ m k w20 (SlF.fr0 hu hF20)).mono ?_
  rintro e w21 ⟨rfl, hf21⟩
  go_wp2
  go_ret
  exact ⟨rfl, hF20.trans0 hf21⟩
set_option maxRecDepth 100000 in
set_option maxHeartbeats 3200000 in
theorem SpanKinds_any (w : World) (v : Value) (ks : List Int) (hv : SlI w v ks) (u : Value) (m : List Op3) (hu : SlP w u m) (_ : okV u) (k : Int) (_ : -9223372036854775808 ≤ k ∧ k ≤ 9223372036854775807) :
    Calls Try.prog 10 #[v, u, .int .i64 k] w fun e w' => e = .returned (.bool true) ∧ Fr [] w w' := by
  by_cases hk : ks.length ≤ 3000
  · exact SpanKinds_yes w v ks hv u m hu k hk
  · obtain ⟨a, cap, rfl, _, _, _⟩ := hv.open
    obtain ⟨a', cap', rfl, _, _, _⟩ := hu.open
    have hk1 : (3000 : Int) < (ks.length : Int) := by omega
    go_enter Try.func10, Try.ntmps10
    go_wp2_with fail
    refine (aliveL_calls _).mono ?_
    rintro e w2 ⟨rfl, hf2⟩
    go_wp2
    go_ret
    exact ⟨rfl, hf2⟩
end Go.Proofs.Ytkammkbjkojfmaa
