/-
  law09.SpanTwo: the walk.
-/
import Derived.Test.YtkammkbjkojfmaaSpAl
import Derived.Test.YtkammkbjkojfmaaSpF
import Derived.Test.YtkammkbjkojfmaaSpPl
import Derived.Test.YtkammkbjkojfmaaSpKn
namespace Go.Proofs.Ytkammkbjkojfmaa
open Go.RowKit Go.Maps

/-- an operation under a guard that lets it by -/
theorem wpList_lit {P : Program} {ops : Array Oper} {Q : Exit → Act → World → Prop} {a : Act} {w : World} {rest : List Oper} {o : Oper} (hw : Region.wanted o (yielded ops a.tmps) = true) (h : wpList P ops Q ({ o with guard := none } :: rest) a w) : wpList P ops Q (o :: rest) a w := by
  unfold wpList at h ⊢
  have hw' : Region.wanted { o with guard := none } (yielded ops a.tmps) = true := rfl
  rw [if_pos hw'] at h
  rw [if_pos hw]
  exact h
theorem two_cut {l : List Op3} (hr : right l = true) {n : Nat} (h1 : 1 ≤ n) (h2 : n < (flatE l).length) : kindsE (cutE l 0 n) ++ kindsE (cutE l n ((flatE l).length - n : Nat)) = kindsE l := by
  have hle := (right_ok hr).2
  have e1 : cutE l 0 n = ofE ((flatE l).take n) := by
    unfold cutE
    rw [if_pos ⟨hr, by omega, by omega, by omega, by omega⟩]
    simp
  have e2 : cutE l n ((flatE l).length - n : Nat) = ofE ((flatE l).drop n) := by
    unfold cutE
    rw [if_pos ⟨hr, by omega, by omega, by omega, by omega⟩, Int.toNat_natCast, Int.toNat_natCast, List.take_of_length_le (by simp)]
  rw [e1, e2, kinds_ofE (by simp; omega), kinds_ofE (by simp; omega), List.take_append_drop, kindsE_right hr]
set_option maxRecDepth 100000 in
set_option maxHeartbeats 1600000 in
theorem SpanTwo_any (w : World) (v : Value) (l : List Op3) (hv : SlP w v l) (_ : okV v) (n : Int) (_ : -9223372036854775808 ≤ n ∧ n ≤ 9223372036854775807) :
    Calls Try.prog 8 #[v, .int .i64 n] w fun e w' => e = .returned (.bool true) ∧ Fr [] w w' := by
  obtain ⟨a, cap, rfl, _, _, _⟩ := hv.open
  go_enter Try.func8, Try.ntmps8
  go_wp2_with fail
  refine (sLong_calls _ l w hv).mono ?_
  rintro e w1 ⟨rfl, hf1⟩
  go_wp2_with fail
  refine (fewL_calls _ l w1 (SlF.fr0 hv hf1)).mono ?_
  rintro e w2 ⟨B, rfl, hB, hf2⟩
  have hF2 := hf1.trans0 hf2
  cases B
  · clear hB
    go_wp2_with fail
    refine (aliveL_calls _).mono ?_
    rintro e w3 ⟨rfl, hf3⟩
    go_wp2
    go_ret
    exact ⟨rfl, hF2.trans0 hf3⟩
  have hl := (hB rfl).kinds
  clear hB
  by_cases h1 : n < 1
  · generalize kindsE l = Z at *
    go_wp2_with fail
    refine (aliveL_calls _).mono ?_
    rintro e w3 ⟨rfl, hf3⟩
    go_wp2
    go_ret
    exact ⟨rfl, hF2.trans0 hf3⟩
  by_cases h2 : ((kindsE l).length : Int) ≤ n
  · generalize kindsE l = Z at *
    go_wp2_with fail
    refine (aliveL_calls _).mono ?_
    rintro e w3 ⟨rfl, hf3⟩
    go_wp2
    go_ret
    exact ⟨rfl, hF2.trans0 hf3⟩
  have hr : right l = true := by
    rcases Bool.eq_false_or_eq_true (right l) with h | h
    · exact h
    · rw [kindsE_not h] at h2; simp at h2; omega
  obtain ⟨M, rfl⟩ := Int.eq_ofNat_of_zero_le (by omega : 0 ≤ n)
  have Hcut := hidIt (two_cut hr (n := M) (by omega) (by rw [kindsE_right hr] at h2; omega))
  rw [← kindsE_right hr] at Hcut
  have eT : (((kindsE l).length - M : Nat) : Int) = ((kindsE l).length : Int) - (M : Int) := by omega
  have hwr : IntKind.i64.wrap (((kindsE l).length : Int) - (M : Int)) = ((kindsE l).length : Int) - (M : Int) := IntWalk.i64_in _ (by omega)
  have k2 := fun w hv => sCut_calls (.slice a l.length cap) l M (((kindsE l).length - M : Nat) : Int) w hv
  have k1 := fun w hv => sCut_calls (.slice a l.length cap) l 0 M w hv
  have k3 := fun w hv => rKinds_calls (.slice a l.length cap) l w hv
  generalize cutE l 0 M = C1 at *
  generalize cutE l M (((kindsE l).length - M : Nat) : Int) = C2 at *
  rw [eT] at k2
  clear eT hr
  have hz1 : (kindsE C1).length ≤ 65536 := kindsE_le C1
  have hz2 : (kindsE C2).length ≤ 65536 := kindsE_le C2
  have kk1 := fun v w hv => sKinds_calls v C1 w hv
  have kk2 := fun v w hv => sKinds_calls v C2 w hv
  generalize kindsE l = Z at *
  generalize kindsE C1 = Z1 at *
  generalize kindsE C2 = Z2 at *
  go_wp2_with fail
  refine (k1 w2 (SlF.fr0 hv hF2)).mono ?_
  rintro e w3 ⟨v3, rfl, s3, hf3, _⟩
  have hF3 := hF2.trans0 hf3
  go_wp2_with fail
  refine (kk1 _ w3 s3).mono ?_
  rintro e w4 ⟨v4, rfl, _, hf4, o4⟩
  have hF4 := hF3.trans0 hf4
  go_wp2_with fail
  refine (k2 w4 (SlF.fr0 hv hF4)).mono ?_
  rintro e w5 ⟨v5, rfl, s5, hf5, _⟩
  have hF5 := hF4.trans0 hf5
  go_wp2_with fail
  refine (kk2 _ w5 s5).mono ?_
  rintro e w6 ⟨v6, rfl, s6, hf6, o6⟩
  have hF6 := hF5.trans0 hf6
  have o4b := owns_fr o4 (hf5.trans0 hf6) (by simp)
  have ok6 := okV.of_owns o6
  clear o4 o6 s3 s5
  go_wp2_with fail
  refine (aliveL_calls _).mono ?_
  rintro e w7 ⟨rfl, hf7⟩
  have hF7 := hF6.trans0 hf7
  have o7 := owns_fr o4b hf7 (by simp)
  have s7 := SlF.fr0 s6 hf7
  have hz3 := (hf4.trans0 (hf5.trans0 (hf6.trans0 hf7))).size
  have hob := own_base o7
  have hz4 := hF3.size
  obtain ⟨a7, c7, rfl, _, _, _⟩ := Sl.of_owns o7
  obtain ⟨a8, c8, rfl, _, _, _⟩ := s7.open
  clear o4b s6
  go_wp2_with (at_builtin; refine Hid.out ?_)
  refine hidIt ?_
  refine wpList_lit rfl ?_
  dsimp only
  refine wpList_append_sl 27 3 (.int .i64 0) 1 8 Try.underlying27 infoInt rfl (by decide) (by decide) rfl _ _ rfl w3.heap.size _ Z1.length _ rfl o7 _ Z2.length (Z2.flatMap intC) s7 ok6 (by rw [flat_int]; simp) (flat_one (fun _ => int_one) Z2) rfl (by omega) (by omega) (by omega) ?_
  intro v9 w9 hown9 hgrow9
  have hF9 : Fr [] w w9 := hF7.grown hgrow9 (fun x hx => .inr (by have := hob x hx; omega))
  have s9 : SlI w9 v9 (Z1 ++ Z2) := SlF.of_owns (base := w3.heap.size) (e := 3) (size := 1) (by rw [List.length_append, List.flatMap_append]; exact hown9)
  obtain ⟨a9, c9, rfl, _, _, _⟩ := s9.open
  rw [List.length_append] at s9
  clear hown9 hgrow9 o7
  go_wp2_with fail
  refine (k3 w9 (SlF.fr0 hv hF9)).mono ?_
  rintro e w10 ⟨v10, rfl, s10, hf10, _⟩
  have hF10 := hF9.trans0 hf10
  have s9b := SlF.fr0 s9 hf10
  go_wp2_with fail
  refine (SameI_calls _ _ (Z1 ++ Z2) Z w10 s9b s10).mono ?_
  rintro e w11 ⟨rfl, hf11⟩
  rw [show decide (Z1 ++ Z2 = Z) = true by simpa using Hcut.out]
  go_wp2
  go_ret
  exact ⟨rfl, hF10.trans0 hf11⟩
end Go.Proofs.Ytkammkbjkojfmaa
