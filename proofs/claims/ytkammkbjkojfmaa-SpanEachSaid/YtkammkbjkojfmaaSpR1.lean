/-
  The reference of layer 9: Right, Kinds.
-/
import Derived.Test.YtkammkbjkojfmaaSpW1
namespace Go.Proofs.Ytkammkbjkojfmaa
open Go.RowKit Go.Maps

set_option maxRecDepth 100000 in
set_option maxHeartbeats 1600000 in
theorem rRight_calls (v : Value) (l : List Op3) (w : World) (hv : SlP w v l) : Calls Try.prog 31 #[v] w fun e w' => e = .returned (.bool (right l)) ∧ Fr [] w w' := by
  obtain ⟨a, cap, rfl, hlc, hcm, _⟩ := hv.open
  unfold maxLen at hcm
  have H0 : Hid (right l = rightN 0 (l.drop 0)) := hidIt rfl
  have Hall : ∀ n, Hid (rightN n (l.drop l.length) = true) := fun n => hidIt (by rw [List.drop_eq_nil_of_le (Nat.le_refl _)]; rfl)
  have Hstep : ∀ (n : Nat) (k : Nat), k < l.length → Hid (rightN n (l.drop k) = ((decide ((l.getD k z3).1 = (n : Int)) && (decide (1 ≤ (l.getD k z3).2.1) && decide ((l.getD k z3).2.1 ≤ 65536 - (n : Int)))) && rightN (n + (l.getD k z3).2.1) (l.drop (k + 1)))) := fun n k h => hidIt (rightN_step h)
  generalize right l = res at *
  go_enter Try.func31, Try.ntmps31
  go_wp2_with fail
  go_loopw [3, 4] (fun nx i wr => ∃ k n : Nat, k ≤ l.length ∧ i = .int .i64 k ∧ nx = .int .i64 n ∧ n ≤ 65536 ∧ Hid (res = rightN n (l.drop k)) ∧ Fr [] w wr) (fun _ i _ => l.length - (intOf i).toNat)
  case atStart => exact ⟨0, 0, Nat.zero_le _, rfl, rfl, by omega, H0, Fr.refl _ _⟩
  case round =>
    clear H0
    obtain ⟨k, n, hk, rfl, rfl, hn, hr, hF⟩ := hrel
    by_cases hlt : k < l.length
    · obtain ⟨b, off, rfl, hb, c0, c1, c2⟩ := SlP.at (hv.fr0 hF) hlt
      have hs := Hstep n k hlt
      generalize l.getD k z3 = x at *
      obtain ⟨p, q, r⟩ := x
      simp only at c0 c1 c2 hs
      clear Hstep Hall
      by_cases h1 : p = (n : Int)
      · subst h1
        by_cases h2 : q < 1
        · have Hr : Hid (res = false) := hidIt (by rw [hr.out, hs.out, show decide (1 ≤ q) = false by simp; omega]; simp)
          clear hs hr
          go_wp2
          go_ret
          exact ⟨ret_bool Hr.out.symm, hF⟩
        · by_cases h3 : 65536 - (n : Int) < q
          · have Hr : Hid (res = false) := hidIt (by rw [hr.out, hs.out, show decide (q ≤ 65536 - (n : Int)) = false by simp; omega]; simp)
            clear hs hr
            go_wp2
            go_ret
            exact ⟨ret_bool Hr.out.symm, hF⟩
          · obtain ⟨Q, rfl⟩ := Int.eq_ofNat_of_zero_le (by omega : 0 ≤ q)
            have Hr : Hid (res = rightN ((n + Q : Nat) : Int) (l.drop (k + 1))) := hidIt (by rw [hr.out, hs.out, show decide ((Q : Int) ≤ 65536 - (n : Int)) = true by simp; omega, show decide (1 ≤ (Q : Int)) = true by simp; omega]; simp)
            clear hs hr
            have hw1 : IntKind.i64.wrap ((n : Int) + (Q : Int)) = (n : Int) + (Q : Int) := IntWalk.i64_in _ (by omega)
            go_wp2
            go_roundw
            case rel => exact ⟨k + 1, n + Q, by omega, by go_num, by go_num, by omega, Hr, hF⟩
            case measure => simp [intOf]; omega
      · have Hr : Hid (res = false) := hidIt (by rw [hr.out, hs.out, show decide (p = (n : Int)) = false by simpa using h1]; simp)
        have hne : ((p : Int) == (n : Int)) = false := by simpa using h1
        clear hs hr
        go_wp2
        go_ret
        exact ⟨ret_bool Hr.out.symm, hF⟩
    · have hke : k = l.length := by omega
      subst hke
      have Hr : Hid (res = true) := hidIt (by rw [hr.out, (Hall _).out])
      clear hr Hall Hstep
      go_wp2
      go_ret
      exact ⟨ret_bool Hr.out.symm, hF⟩
set_option maxRecDepth 100000 in
set_option maxHeartbeats 1600000 in
theorem rKinds_calls (v : Value) (l : List Op3) (w : World) (hv : SlP w v l) : Calls Try.prog 14 #[v] w fun e w' => ∃ v', e = .returned v' ∧ SlI w' v' (kindsE l) ∧ Fr [] w w' ∧ ∀ k, v'.ownBlock = some k → w.heap.size ≤ k := by
  have keyR := fun w hv => rRight_calls v l w hv
  by_cases hr : right l = true
  · obtain ⟨hR, hle⟩ := right_ok hr
    rw [hr] at keyR
    have Hd : Hid (flatE (l.take l.length) = kindsE l) := hidIt (by rw [List.take_length, kindsE_right hr])
    have Hle : ∀ k, (flatE (l.take k)).length ≤ 65536 := fun k => Nat.le_trans (flat_take_le l k) hle
    have Hst : ∀ k, k < l.length → Hid (1 ≤ (l.getD k z3).2.1 ∧ (l.getD k z3).2.1 ≤ 65536 ∧ flatE (l.take (k + 1)) = flatE (l.take k) ++ List.replicate (l.getD k z3).2.1.toNat (l.getD k z3).2.2) := fun k hk => hidIt (by
      have g1 := hR.2 k hk
      have g2 := flat_take_le l (k + 1)
      rw [flat_step hk, List.length_append, List.length_replicate] at g2
      exact ⟨g1.2, by omega, flat_step hk⟩)
    have H0 : flatE (l.take 0) = [] := by simp [flatE]
    generalize kindsE l = Z at *
    generalize hD : (fun k => flatE (l.take k)) = D at *
    replace Hd : Hid (D l.length = Z) := by rw [← hD]; exact Hd
    replace Hle : ∀ k, (D k).length ≤ 65536 := by rw [← hD]; exact Hle
    replace Hst : ∀ k, k < l.length → Hid (1 ≤ (l.getD k z3).2.1 ∧ (l.getD k z3).2.1 ≤ 65536 ∧ D (k + 1) = D k ++ List.replicate (l.getD k z3).2.1.toNat (l.getD k z3).2.2) := by rw [← hD]; exact Hst
    replace H0 : D 0 = [] := by rw [← hD]; exact H0
    have hll : l.length ≤ 65536 := Nat.le_trans hR.len hle
    clear hD hle hR
    obtain ⟨a, cap, rfl, hlc, hcm, _⟩ := hv.open
    go_enter Try.func14, Try.ntmps14
    go_wp2_with fail
    go_loopw [3, 4, 5] (fun o i _ wr => ∃ k : Nat, k ≤ l.length ∧ i = .int .i64 k ∧ wr.ownsRow w.heap.size 3 1 o (D k).length ((D k).flatMap intC) ∧ Fr [] w wr) (fun _ i _ _ => l.length - (intOf i).toNat)
    case atStart => exact ⟨0, Nat.zero_le _, rfl, by rw [H0]; exact World.ownsRow_nil _ _ _ _, Fr.refl _ _⟩
    case round =>
      obtain ⟨k, hk, rfl, hown, hF⟩ := hrel
      go_wp2_with fail
      refine (keyR wr (hv.fr0 hF)).mono ?_
      rintro e w1 ⟨rfl, hf1⟩
      have hF1 := hF.trans0 hf1
      have hown1 := owns_fr hown hf1 (by simp)
      have hob := own_base hown1
      clear hown hF hf1
      by_cases hlt : k < l.length
      · obtain ⟨b, off, rfl, hb, d0, d1, d2⟩ := SlP.at (hv.fr0 hF1) hlt
        have hs := Hst k hlt
        have hle := Hle k
        have hat := fun wq (hq : Fr [] w wq) => SlP.at (hv.fr0 hq) hlt
        generalize l.getD k z3 = x at *
        obtain ⟨p, q, r⟩ := x
        simp only at d0 d1 d2 hs hat
        obtain ⟨s1, s2, s3⟩ := hs.out
        replace s3 := hidIt s3
        obtain ⟨Q, rfl⟩ := Int.eq_ofNat_of_zero_le (by omega : 0 ≤ q)
        rw [Int.toNat_natCast] at s3
        clear Hst H0 Hd Hle hs d0 d1 d2
        generalize D k = E at *
        go_wp2_with fail
        go_loopw [3, 5] (fun o j wr => ∃ n : Nat, n ≤ Q ∧ j = .int .i64 n ∧ wr.ownsRow w.heap.size 3 1 o (E ++ List.replicate n r).length ((E ++ List.replicate n r).flatMap intC) ∧ Fr [] w wr) (fun _ j _ => Q - (intOf j).toNat)
        case atStart => exact ⟨0, Nat.zero_le _, rfl, by simpa using hown1, hF1⟩
        case round =>
          clear hown1 hF1 hob
          obtain ⟨n, hn, rfl, hown, hF⟩ := hrel
          have hob := own_base hown
          have hsz := hF.size
          obtain ⟨b', off', hbo, hb', d0, d1, d2⟩ := hat _ hF
          cases hbo
          clear hat
          have hl' : (E ++ List.replicate n r).length ≤ 200000 := by simp; omega
          have Hs : Hid (E ++ List.replicate (n + 1) r = (E ++ List.replicate n r) ++ [r]) := hidIt (by rw [List.replicate_succ', List.append_assoc])
          have He : n = Q → Hid (E ++ List.replicate n r = D (k + 1)) := fun h => hidIt (by rw [s3.out, h])
          generalize E ++ List.replicate n r = Y at *
          by_cases hnq : n < Q
          · obtain ⟨av, cv, rfl, _, _, _⟩ := Sl.of_owns hown
            go_wp2_with (at_builtin; refine Hid.out ?_)
            refine hidIt ?_
            refine wpList_append1 27 3 (.int .i64 0) 1 8 Try.underlying27 infoInt rfl (by decide) (by decide) rfl _ _ rfl w.heap.size (.slice av Y.length cv) Y.length (Y.flatMap intC) rfl (hown.alloc _) (intC r) rfl int_one wr.heap.size rfl (Blk.new _ _ _) (by omega) (by simp; omega) ?_
            intro v' w3 hown3 hgrow hloc
            go_wp2
            go_roundw
            case rel => exact ⟨n + 1, by omega, by go_num, by rw [Hs.out]; simpa using hown3, (hF.alloc _).grown hgrow (fun x hx => .inr (hob x hx))⟩
            case measure => simp [intOf]; omega
          · have He' := He (by omega)
            go_wp2
            go_roundw
            case rel => exact ⟨k + 1, by omega, by go_num, by rw [← He'.out]; exact hown, hF⟩
            case measure => simp [intOf]; omega
      · have hke : k = l.length := by omega
        have Hz : Hid (D k = Z) := hidIt (by rw [hke, Hd.out])
        have hsl : SlI w1 u3 (D k) := SlF.of_owns hown1
        clear hown1 Hst Hle H0 Hd hke
        go_wp2
        go_ret
        exact ⟨u3, rfl, by rw [← Hz.out]; exact hsl, hF1, hob⟩
  · have hr' : right l = false := by simpa using hr
    rw [hr'] at keyR
    rw [kindsE_not hr']
    obtain ⟨a, cap, rfl, hlc, hcm, _⟩ := hv.open
    go_enter Try.func14, Try.ntmps14
    go_wp2_with fail
    go_loopw [3, 4, 5] (fun o i _ wr => i = .int .i64 0 ∧ o = .slice none 0 0 ∧ Fr [] w wr) (fun _ _ _ _ => 0)
    case atStart => exact ⟨rfl, rfl, Fr.refl _ _⟩
    case round =>
      obtain ⟨rfl, rfl, hF⟩ := hrel
      go_wp2_with fail
      refine (keyR wr (hv.fr0 hF)).mono ?_
      rintro e w1 ⟨rfl, hf1⟩
      go_wp2
      go_ret
      exact ⟨_, rfl, Sl.nil _, hF.trans0 hf1, fun _ h => by cases h⟩
end Go.Proofs.Ytkammkbjkojfmaa
