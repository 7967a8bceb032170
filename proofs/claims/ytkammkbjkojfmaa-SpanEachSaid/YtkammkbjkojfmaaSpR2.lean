/-
  The reference of layer 9: Cut, Only, Total.
-/
import Derived.Test.YtkammkbjkojfmaaSpR1
import Derived.Test.YtkammkbjkojfmaaSpanR
import Derived.Test.YtkammkbjkojfmaaCut
import Derived.Test.YtkammkbjkojfmaaSpE3
namespace Go.Proofs.Ytkammkbjkojfmaa
open Go.RowKit Go.Maps

set_option maxRecDepth 100000 in
set_option maxHeartbeats 1600000 in
theorem rCut_calls (v : Value) (l : List Op3) (f n : Int) (w : World) (hv : SlP w v l) (hl : (kindsE l).length ≤ 4096) : Calls Try.prog 17 #[v, .int .i64 f, .int .i64 n] w fun e w' => ∃ v', e = .returned v' ∧ SlP w' v' (cutE l f n) ∧ Fr [] w w' := by
  have key := fun w hv => rKinds_calls v l w hv
  by_cases hc : 1 ≤ n ∧ 0 ≤ f ∧ n ≤ (kindsE l).length ∧ f ≤ (kindsE l).length - n
  · obtain ⟨h1, h2, h3, h4⟩ := hc
    obtain ⟨F, rfl⟩ := Int.eq_ofNat_of_zero_le h2
    obtain ⟨M, rfl⟩ := Int.eq_ofNat_of_zero_le (by omega : 0 ≤ n)
    have hr : right l = true := by
      rcases Bool.eq_false_or_eq_true (right l) with h | h
      · exact h
      · rw [kindsE_not h] at h3; simp at h3; omega
    have He : Hid (cutE l F M = ofE (((kindsE l).take (F + M)).drop F)) := hidIt (by
      rw [kindsE_right hr] at h3 h4 ⊢
      unfold cutE; rw [if_pos ⟨hr, h1, h2, h3, h4⟩, Int.toNat_natCast, Int.toNat_natCast, take_drop_eq])
    have c1 : ¬ (M : Int) < 1 := by omega
    have c2 : ¬ (F : Int) < 0 := by omega
    have c3 : ¬ ((kindsE l).length : Int) < (M : Int) := by omega
    have c4 : ¬ ((kindsE l).length : Int) - (M : Int) < (F : Int) := by omega
    generalize kindsE l = Z at *
    obtain ⟨a, cap, rfl, hlc, hcm, _⟩ := hv.open
    go_enter Try.func17, Try.ntmps17
    go_wp2_with fail
    refine (key w hv).mono ?_
    rintro e w1 ⟨v1, rfl, hs1, hf1, hb1⟩
    obtain ⟨a1, cap1, rfl, hlc1, hcm1, _⟩ := hs1.open
    have hw1 : IntKind.i64.wrap ((F : Int) + (M : Int)) = ((F + M : Nat) : Int) := by rw [IntWalk.i64_in _ (by omega)]; omega
    have hFM : F + M ≤ cap1 := by omega
    have hFM1 : F ≤ F + M := by omega
    have hm : SlI w1 (.slice (a1.map (fun x => x.add F)) M (cap1 - F)) ((Z.take (F + M)).drop F) := by
      have := SlF.mid 1 (fun _ => rfl) hs1 (m := F) (j := F + M) (by omega) (by omega)
      have e : slAddr a1 cap1 F 1 = a1.map (fun x => x.add F) := by unfold slAddr; rw [if_neg (by omega), Nat.mul_one]
      rwa [Nat.add_sub_cancel_left, e] at this
    have hml : ((Z.take (F + M)).drop F).length ≤ 4096 := by simp; omega
    go_wp2_with fail
    refine (rOf_calls _ _ _ hm hml).mono ?_
    rintro e w2 ⟨v2, rfl, hs2, hf2⟩
    go_wp2
    go_ret
    exact ⟨v2, rfl, by rw [He.out]; exact hs2, hf1.trans0 hf2⟩
  · have He : Hid (cutE l f n = []) := hidIt (cutE_no (fun ⟨hr, h⟩ => hc (by rw [kindsE_right hr]; exact h)))
    have Hz : (kindsE l).length ≤ 65536 := kindsE_le l
    generalize kindsE l = Z at *
    obtain ⟨a, cap, rfl, hlc, hcm, _⟩ := hv.open
    have key := key w hv
    by_cases c1 : n < 1
    · clear hc
      go_enter Try.func17, Try.ntmps17
      go_wp2_with fail
      refine key.mono ?_
      rintro e w1 ⟨v1, rfl, hs1, hf1, hb1⟩
      obtain ⟨a1, cap1, rfl, hlc1, hcm1, _⟩ := hs1.open
      go_wp2
      go_ret
      exact ⟨_, rfl, by rw [He.out]; exact Sl.nil _, hf1⟩
    · by_cases c2 : f < 0
      · clear hc
        go_enter Try.func17, Try.ntmps17
        go_wp2_with fail
        refine key.mono ?_
        rintro e w1 ⟨v1, rfl, hs1, hf1, hb1⟩
        obtain ⟨a1, cap1, rfl, hlc1, hcm1, _⟩ := hs1.open
        go_wp2
        go_ret
        exact ⟨_, rfl, by rw [He.out]; exact Sl.nil _, hf1⟩
      · by_cases c3 : (Z.length : Int) < n
        · clear hc
          go_enter Try.func17, Try.ntmps17
          go_wp2_with fail
          refine key.mono ?_
          rintro e w1 ⟨v1, rfl, hs1, hf1, hb1⟩
          obtain ⟨a1, cap1, rfl, hlc1, hcm1, _⟩ := hs1.open
          go_wp2
          go_ret
          exact ⟨_, rfl, by rw [He.out]; exact Sl.nil _, hf1⟩
        · have c4 : (Z.length : Int) - n < f := by omega
          have hw1 : IntKind.i64.wrap ((Z.length : Int) - n) = (Z.length : Int) - n := IntWalk.i64_in _ (by omega)
          clear hc
          go_enter Try.func17, Try.ntmps17
          go_wp2_with fail
          refine key.mono ?_
          rintro e w1 ⟨v1, rfl, hs1, hf1, hb1⟩
          obtain ⟨a1, cap1, rfl, hlc1, hcm1, _⟩ := hs1.open
          go_wp2
          go_ret
          exact ⟨_, rfl, by rw [He.out]; exact Sl.nil _, hf1⟩
set_option maxRecDepth 100000 in
set_option maxHeartbeats 1600000 in
theorem rTotal_calls (v : Value) (l : List Op3) (kind : Int) (w : World) (hv : SlP w v l) : Calls Try.prog 33 #[v, .int .i64 kind] w fun e w' => e = .returned (.int .i64 (countK (kindsE l) kind)) ∧ Fr [] w w' := by
  have key := rKinds_calls v l w hv
  have hzl := kindsE_le l
  have Hd : Hid (countK ((kindsE l).take (kindsE l).length) kind = countK (kindsE l) kind) := hidIt (by rw [List.take_length])
  have Hst : ∀ k, k < (kindsE l).length → Hid (countK ((kindsE l).take (k + 1)) kind = countK ((kindsE l).take k) kind + if (kindsE l).getD k 0 = kind then 1 else 0) := fun k hk => hidIt (by
    rw [take_snoc 0 _ hk, countK_append, show [(kindsE l).getD k 0] = List.replicate 1 ((kindsE l).getD k 0) from rfl, countK_rep])
  have Hle : ∀ k, Hid (countK ((kindsE l).take k) kind ≤ 65536) := fun k => hidIt (Nat.le_trans (List.length_filter_le _ _) (by simp; omega))
  have H0 : countK ((kindsE l).take 0) kind = 0 := by simp [countK]
  obtain ⟨a, cap, rfl, hlc, hcm, _⟩ := hv.open
  generalize hC : (fun k => countK ((kindsE l).take k) kind) = C at *
  replace Hd : Hid (C (kindsE l).length = countK (kindsE l) kind) := by rw [← hC]; exact Hd
  replace Hst : ∀ k, k < (kindsE l).length → Hid (C (k + 1) = C k + if (kindsE l).getD k 0 = kind then 1 else 0) := by rw [← hC]; exact Hst
  replace Hle : ∀ k, Hid (C k ≤ 65536) := by rw [← hC]; exact Hle
  replace H0 : C 0 = 0 := by rw [← hC]; exact H0
  generalize countK (kindsE l) kind = R at *
  generalize kindsE l = Z at *
  clear hC
  go_enter Try.func33, Try.ntmps33
  go_wp2_with fail
  refine key.mono ?_
  rintro e w1 ⟨v1, rfl, hs1, hf1, hb1⟩
  obtain ⟨a1, cap1, rfl, hlc1, hcm1, _⟩ := hs1.open
  clear key hb1
  unfold maxLen at hcm1
  go_wp2_with fail
  go_loopw [5, 7] (fun c i wr => ∃ k : Nat, k ≤ Z.length ∧ i = .int .i64 k ∧ c = .int .i64 (C k) ∧ SlI wr (.slice a1 Z.length cap1) Z ∧ Fr [] w wr) (fun _ i _ => Z.length - (intOf i).toNat)
  case atStart => exact ⟨0, Nat.zero_le _, rfl, by rw [H0]; rfl, hs1, hf1⟩
  case round =>
    clear hs1 hf1
    obtain ⟨k, hk, rfl, rfl, hs, hF⟩ := hrel
    by_cases hlt : k < Z.length
    · obtain ⟨b, off, rfl, hb, c0⟩ := SlI.at hs hlt
      have h1 := Hst k hlt
      have h2 := Hle k
      clear Hst Hle H0 Hd
      generalize Z.getD k 0 = x at *
      by_cases hx : x = kind
      · rw [if_pos hx] at h1
        subst hx
        generalize C k = T at *
        have hw1 : IntKind.i64.wrap ((T : Int) + 1) = (T : Int) + 1 := by have := h2.out; exact IntWalk.i64_in _ (by omega)
        go_wp2
        go_roundw
        case rel => exact ⟨k + 1, by omega, by go_num, by rw [h1.out]; go_num, hs, hF⟩
        case measure => simp [intOf]; omega
      · rw [if_neg hx] at h1
        have hbx : ((x : Int) == kind) = false := by simpa using hx
        generalize C k = T at *
        go_wp2
        go_roundw
        case rel => exact ⟨k + 1, by omega, by go_num, by rw [h1.out]; rfl, hs, hF⟩
        case measure => simp [intOf]; omega
    · have hke : k = Z.length := by omega
      have Hr : Hid (C k = R) := hidIt (by rw [hke, Hd.out])
      clear Hst Hle H0 Hd hke
      go_wp2
      go_ret
      exact ⟨ret_int (by rw [Hr.out]), hF⟩
set_option maxRecDepth 100000 in
set_option maxHeartbeats 1600000 in
theorem rOnly_calls (v : Value) (l : List Op3) (kind : Int) (w : World) (hv : SlP w v l) (hl : (kindsE l).length ≤ 4096) : Calls Try.prog 21 #[v, .int .i64 kind] w fun e w' => ∃ v', e = .returned v' ∧ SlP w' v' (ofKind l kind) ∧ Fr [] w w' := by
  have key := rKinds_calls v l w hv
  have keyO := fun v w hv => rOf_calls v (kindsE l) w hv hl
  have hel : (ofE (kindsE l)).length ≤ 4096 := Nat.le_trans (ofE_len _) hl
  have Hd : Hid (((ofE (kindsE l)).take (ofE (kindsE l)).length).filter (fun x => x.2.2 == kind) = ofKind l kind) := hidIt (by rw [List.take_length]; rfl)
  generalize ofKind l kind = R at *
  generalize ofE (kindsE l) = E at *
  have Hst : ∀ k, k < E.length → Hid ((E.take (k + 1)).filter (fun x => x.2.2 == kind) = (E.take k).filter (fun x => x.2.2 == kind) ++ if (E.getD k z3).2.2 = kind then [E.getD k z3] else []) := fun k hk => hidIt (by
    rw [take_snoc z3 _ hk, List.filter_append, List.filter_cons, List.filter_nil]
    by_cases h : (E.getD k z3).2.2 = kind
    · rw [if_pos h, if_pos (beq_iff_eq.2 h)]
    · rw [if_neg h, if_neg (by rw [beq_eq_false_iff_ne.2 h]; decide)])
  have H0 : (E.take 0).filter (fun x => x.2.2 == kind) = [] := by simp
  have Hle : ∀ k, ((E.take k).filter (fun x => x.2.2 == kind)).length ≤ 4096 := fun k => Nat.le_trans (List.length_filter_le _ _) (by simp; omega)
  generalize hC : (fun k => (E.take k).filter (fun x => x.2.2 == kind)) = C at *
  replace Hd : Hid (C E.length = R) := by rw [← hC]; exact Hd
  replace Hst : ∀ k, k < E.length → Hid (C (k + 1) = C k ++ if (E.getD k z3).2.2 = kind then [E.getD k z3] else []) := by rw [← hC]; exact Hst
  replace H0 : C 0 = [] := by rw [← hC]; exact H0
  replace Hle : ∀ k, (C k).length ≤ 4096 := by rw [← hC]; exact Hle
  clear hC
  obtain ⟨a, cap, rfl, hlc, hcm, _⟩ := hv.open
  go_enter Try.func21, Try.ntmps21
  go_wp2_with fail
  refine key.mono ?_
  rintro e w1 ⟨v1, rfl, hs1, hf1, hb1⟩
  obtain ⟨a1, cap1, rfl, hlc1, hcm1, _⟩ := hs1.open
  clear key hb1
  go_wp2_with fail
  refine (keyO _ _ hs1).mono ?_
  rintro e w2 ⟨v2, rfl, hs2, hf2⟩
  obtain ⟨a2, cap2, rfl, hlc2, hcm2, _⟩ := hs2.open
  have hF2 := hf1.trans0 hf2
  clear keyO hs1 hf1 hf2
  go_wp2_with fail
  go_loopw [5, 7] (fun c i wr => ∃ k : Nat, k ≤ E.length ∧ i = .int .i64 k ∧ wr.ownsRow w2.heap.size 38 3 c (C k).length ((C k).flatMap op3C) ∧ Fr [] w2 wr ∧ Fr [] w wr) (fun _ i _ => E.length - (intOf i).toNat)
  case atStart => exact ⟨0, Nat.zero_le _, rfl, by rw [H0]; exact World.ownsRow_nil _ _ _ _, Fr.refl _ _, hF2⟩
  case round =>
    have hsw := hF2.size
    clear hF2
    obtain ⟨k, hk, rfl, hown, hF2, hF⟩ := hrel
    have hs := SlF.fr0 hs2 hF2
    have hob := own_base hown
    have hsz := hF2.size
    by_cases hlt : k < E.length
    · obtain ⟨b, off, rfl, hb, c0, c1, c2⟩ := SlP.at hs hlt
      have h1 := Hst k hlt
      have h2 := Hle k
      clear Hst Hle H0 Hd
      generalize E.getD k z3 = x at *
      obtain ⟨p, q, r⟩ := x
      simp only at c0 c1 c2 h1
      generalize C k = T at *
      by_cases hx : r = kind
      · rw [if_pos hx] at h1
        subst hx
        obtain ⟨av, cv, rfl, _, _, _⟩ := Sl.of_owns hown
        go_wp2_with (at_builtin; refine Hid.out ?_)
        refine hidIt ?_
        refine wpList_append1 22 38 (.agg #[.int .i64 0, .int .i64 0, .int .i64 0]) 3 24 Try.underlying22 infoExt rfl (by decide) (by decide) rfl _ _ rfl w2.heap.size (.slice av T.length cv) T.length (T.flatMap op3C) rfl (hown.alloc _) (op3C (p, q, r)) rfl ext_one wr.heap.size rfl (Blk.new _ _ _) (by omega) (by simp; omega) ?_
        intro v' w3 hown3 hgrow hloc
        go_wp2
        go_roundw
        case rel => exact ⟨k + 1, by omega, by go_num, by rw [h1.out, List.flatMap_append, List.length_append]; simpa using hown3, (hF2.alloc _).grown hgrow (fun x hx => .inr (hob x hx)), (hF.alloc _).grown hgrow (fun x hx => .inr (by have := hob x hx; omega))⟩
        case measure => simp [intOf]; omega
      · rw [if_neg hx, List.append_nil] at h1
        have hbx : ((r : Int) == kind) = false := by simpa using hx
        go_wp2
        go_roundw
        case rel => exact ⟨k + 1, by omega, by go_num, by rw [h1.out]; exact hown, hF2, hF⟩
        case measure => simp [intOf]; omega
    · have hke : k = E.length := by omega
      have Hr : Hid (C k = R) := hidIt (by rw [hke, Hd.out])
      have hsl : SlP wr u5 (C k) := SlF.of_owns hown
      clear Hst Hle H0 Hd hke hown
      go_wp2
      go_ret
      exact ⟨u5, rfl, by rw [← Hr.out]; exact hsl, hF⟩
end Go.Proofs.Ytkammkbjkojfmaa
