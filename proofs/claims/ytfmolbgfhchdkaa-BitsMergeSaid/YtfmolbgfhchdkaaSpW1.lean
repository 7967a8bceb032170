/-
  Package span: Right, Long.
-/
import Derived.Test.YtfmolbgfhchdkaaSpL
import Derived.Test.YtfmolbgfhchdkaaSpanOf
namespace Go.Proofs.Ytfmolbgfhchdkaa
open Go.RowKit Go.Maps

set_option maxRecDepth 100000 in
set_option maxHeartbeats 1600000 in
theorem sRight_calls (v : Value) (l : List Op3) (w : World) (hv : SlP w v l) : Calls Try.prog 71 #[v] w fun e w' => e = .returned (.bool (right l)) ∧ Fr [] w w' := by
  obtain ⟨a, cap, rfl, hlc, hcm, _⟩ := hv.open
  unfold maxLen at hcm
  have H0 : Hid (right l = rightN 0 (l.drop 0)) := hidIt rfl
  have Hall : ∀ n, Hid (rightN n (l.drop l.length) = true) := fun n => hidIt (by rw [List.drop_eq_nil_of_le (Nat.le_refl _)]; rfl)
  have Hstep : ∀ (n : Nat) (k : Nat), k < l.length → Hid (rightN n (l.drop k) = ((decide ((l.getD k z3).1 = (n : Int)) && (decide (1 ≤ (l.getD k z3).2.1) && decide ((l.getD k z3).2.1 ≤ 65536 - (n : Int)))) && rightN (n + (l.getD k z3).2.1) (l.drop (k + 1)))) := fun n k h => hidIt (rightN_step h)
  generalize right l = res at *
  go_enter Try.func71, Try.ntmps71
  go_wp2_with fail
  go_loopw [3, 5, 8] (fun nx _ i wr => ∃ k n : Nat, k ≤ l.length ∧ i = .int .i64 k ∧ nx = .int .i64 n ∧ n ≤ 65536 ∧ Hid (res = rightN n (l.drop k)) ∧ Fr [] w wr) (fun _ _ i _ => l.length - (intOf i).toNat)
  case atStart => exact ⟨0, 0, Nat.zero_le _, rfl, rfl, by omega, H0, Fr.refl _ _⟩
  case round =>
    clear H0
    obtain ⟨k, n, hk, rfl, rfl, hn, hr, hF⟩ := hrel
    by_cases hlt : k < l.length
    · obtain ⟨b, off, rfl, hb, c0, c1, c2⟩ := SlP.at (hv.fr0 hF) hlt
      have hs := Hstep n k hlt
      generalize l.getD k z3 = x at *
      obtain ⟨p, q, r⟩ := x
      simp only at c0 c1 c2 hs
      clear Hstep Hall
      by_cases h1 : p = (n : Int)
      · subst h1
        by_cases h2 : q < 1
        · have Hr : Hid (res = false) := hidIt (by rw [hr.out, hs.out, show decide (1 ≤ q) = false by simp; omega]; simp)
          clear hs hr
          go_wp2
          go_ret
          exact ⟨ret_bool Hr.out.symm, hF.alloc _⟩
        · by_cases h3 : 65536 - (n : Int) < q
          · have Hr : Hid (res = false) := hidIt (by rw [hr.out, hs.out, show decide (q ≤ 65536 - (n : Int)) = false by simp; omega]; simp)
            clear hs hr
            go_wp2
            go_ret
            exact ⟨ret_bool Hr.out.symm, hF.alloc _⟩
          · obtain ⟨Q, rfl⟩ := Int.eq_ofNat_of_zero_le (by omega : 0 ≤ q)
            have Hr : Hid (res = rightN ((n + Q : Nat) : Int) (l.drop (k + 1))) := hidIt (by rw [hr.out, hs.out, show decide ((Q : Int) ≤ 65536 - (n : Int)) = true by simp; omega, show decide (1 ≤ (Q : Int)) = true by simp; omega]; simp)
            clear hs hr
            have hw1 : IntKind.i64.wrap ((n : Int) + (Q : Int)) = (n : Int) + (Q : Int) := IntWalk.i64_in _ (by omega)
            go_wp2
            go_roundw
            case rel => exact ⟨k + 1, n + Q, by omega, by go_num, by go_num, by omega, Hr, hF.alloc _⟩
            case measure => simp [intOf]; omega
      · have Hr : Hid (res = false) := hidIt (by rw [hr.out, hs.out, show decide (p = (n : Int)) = false by simpa using h1]; simp)
        have hne : ((p : Int) == (n : Int)) = false := by simpa using h1
        clear hs hr
        go_wp2
        go_ret
        exact ⟨ret_bool Hr.out.symm, hF.alloc _⟩
    · have hke : k = l.length := by omega
      subst hke
      have Hr : Hid (res = true) := hidIt (by rw [hr.out, (Hall _).out])
      clear hr Hall Hstep
      go_wp2
      go_ret
      exact ⟨ret_bool Hr.out.symm, hF⟩
set_option maxRecDepth 100000 in
set_option maxHeartbeats 1600000 in
theorem sLong_calls (v : Value) (l : List Op3) (w : World) (hv : SlP w v l) : Calls Try.prog 70 #[v] w fun e w' => e = .returned (.int .i64 ((kindsE l).length : Int)) ∧ Fr [] w w' := by
  by_cases hr : right l = true
  · have hR := right_ok hr
    have He : Hid (endE l = (kindsE l).length) := hidIt (by rw [kindsE_right hr]; exact hR.1.end)
    have hsm := hR.1.small (by omega)
    obtain ⟨a, cap, rfl, _, _, _⟩ := hv.open
    go_enter Try.func70, Try.ntmps70
    go_wp2_with fail
    refine (sRight_calls _ l w hv).mono ?_
    rintro e w1 ⟨rfl, hf⟩
    rw [hr]
    go_wp2_with fail
    refine (send_calls _ l w1 (SlF.fr0 hv hf) hsm).mono ?_
    rintro e w2 ⟨rfl, hf2⟩
    go_wp2
    go_ret
    exact ⟨ret_int He.out, hf.trans0 hf2⟩
  · have hr' : right l = false := by simpa using hr
    have He : Hid ((kindsE l).length = 0) := hidIt (by rw [kindsE_not hr']; rfl)
    obtain ⟨a, cap, rfl, _, _, _⟩ := hv.open
    go_enter Try.func70, Try.ntmps70
    go_wp2_with fail
    refine (sRight_calls _ l w hv).mono ?_
    rintro e w1 ⟨rfl, hf⟩
    rw [hr']
    go_wp2
    go_ret
    exact ⟨ret_int (by rw [He.out]; rfl), hf⟩
end Go.Proofs.Ytfmolbgfhchdkaa
