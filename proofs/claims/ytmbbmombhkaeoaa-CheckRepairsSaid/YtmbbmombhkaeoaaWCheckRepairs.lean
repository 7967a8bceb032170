/-
  CheckRepairs, of rows of any number.
-/
import Derived.Test.YtmbbmombhkaeoaaWkR
namespace Go.Proofs.Ytmbbmombhkaeoaa
open Go.RowKit Go.Maps
attribute [local go_sem] Oper.semAt_some

set_option maxRecDepth 100000 in
set_option maxHeartbeats 1600000 in
theorem CheckRepairs_anyW (w : World) (v : Value) (n : List Int) (hv : SlI w v n) (u : Value) (ls : List (List Slt)) (hu : SlR w u ls) (ht : Bnd ls) :
    Calls Try.prog 4 #[v, u] w fun e w' => e = .returned (.bool true) ∧ Fr [] w w' := by
  have kF := few_callsW v u n ls w hv hu ht
  cases hfb : fewW n ls with
  | false =>
    rw [hfb] at kF
    go_enter Try.func4, Try.ntmps4
    go_wp2_with fail
    refine kF.mono ?_
    rintro e w1 ⟨rfl, hf1⟩
    go_wp2_with fail
    refine (alive_calls _).mono ?_
    rintro e w2 ⟨rfl, hf2⟩
    go_wp2
    go_ret
    exact ⟨rfl, hf1.trans0 hf2⟩
  | true =>
    have hn : n.length ≤ 1048576 := by unfold fewW at hfb; simp only [Bool.and_eq_true, decide_eq_true_eq] at hfb; omega
    rw [hfb] at kF
    go_enter Try.func4, Try.ntmps4
    go_wp2_with fail
    refine kF.mono ?_
    rintro e w1 ⟨rfl, hf1⟩
    go_wp2_with fail
    refine (own_callsW _ ls _ (hu.fr0 hf1) ht).mono ?_
    rintro e w2 ⟨x, rfl, hx, hf2⟩
    have hF2 := hf1.trans0 hf2
    go_wp2_with fail
    refine (Repair_callsW _ x n ls _ (SlF.fr0 hv hF2) hx ht hn).mono ?_
    rintro e w3 ⟨vn, vo, vs, ls2, rfl, ho, hO, hlens, hflat, hf3⟩
    replace hF2 := hF2.trans0 hf3
    have hx3 := hx.fr0 hf3
    replace ho : w3.ownsRow w2.heap.size 3 1 vn n.length ((rcW n.length (gsOf n.length ls.flatten)).flatMap intC) := ho
    replace hflat : ls2.flatten = hsW n.length (len0 ls) ls.flatten := hflat
    have hcnt : wz (cntTo (badAt n.length ls.flatten) ls.flatten.length + cntTo (turn2 n.length (len0 ls) (rcW n.length (ls.flatten.mapIdx fun _ => fix1 n.length)) (ls.flatten.mapIdx fun _ => fix1 n.length)) ls.flatten.length + cntTo (diffAt n (rcW n.length (ls.flatten.mapIdx fun _ => fix1 n.length))) n.length) =
        wz (cntTo (diffAt n (rcW n.length ls.flatten)) n.length + cntTo (chgAt ls.flatten (hsW n.length (len0 ls) ls.flatten)) ls.flatten.length) := by
      have e1 : (ls.flatten.mapIdx fun _ => fix1 n.length) = gsOf n.length ls.flatten := rfl
      rw [e1, chgW_count, gsW_rc]
      congr 1
      omega
    rw [hcnt]
    rw [gsW_rc] at ho
    have kR := rRepair_callsW v u n ls ls2 w3 (SlF.fr0 hv hF2) (hu.fr0 hF2) ht hn hlens hflat
    generalize wz (cntTo (diffAt n (rcW n.length ls.flatten)) n.length + cntTo (chgAt ls.flatten (hsW n.length (len0 ls) ls.flatten)) ls.flatten.length) = ch at *
    have hcl : (rcW n.length ls.flatten).length = n.length := rcW_length _ _
    have hsn : SlI w3 vn (rcW n.length ls.flatten) := SlF.of_owns (by rw [hcl]; exact ho)
    have hso := hO.slr
    have hu3 := hu.fr0 hF2
    have ht2 : Bnd ls2 := bnd_lens hlens ht
    clear ho hO hflat hcl hcnt kF hv hx hf1 hf2 hf3 hu hlens
    generalize rcW n.length ls.flatten = c at *
    go_wp2_with fail
    refine kR.mono ?_
    rintro e w4 ⟨vm, vp, rfl, sm, sp, hf4⟩
    clear kR
    go_wp2_with fail
    refine (alive_calls _).mono ?_
    rintro e w5 ⟨rfl, hf5⟩
    have hf35 := hf4.trans0 hf5
    go_wp2_with fail
    refine (SameI_calls _ _ c _ (SlF.fr0 hsn hf35) (SlF.fr0 sm hf5)).mono ?_
    rintro e w6 ⟨rfl, hf6⟩
    have hf36 := hf35.trans0 hf6
    go_wp2_with fail
    refine (plain_callsW _ ls2 _ (hso.fr0 hf36) ht2).mono ?_
    rintro e w7 ⟨y1, rfl, sy1, hf7⟩
    go_wp2_with fail
    refine (same_calls _ _ ls2 _ sy1 (((sp.fr0 hf5).fr0 hf6).fr0 hf7)).mono ?_
    rintro e w8 ⟨rfl, hf8⟩
    have hf38 := (hf36.trans0 hf7).trans0 hf8
    go_wp2_with fail
    refine (plain_callsW _ ls _ (hx3.fr0 hf38) ht).mono ?_
    rintro e w9 ⟨y2, rfl, sy2, hf9⟩
    go_wp2_with fail
    refine (same_calls _ _ ls _ sy2 ((hu3.fr0 hf38).fr0 hf9)).mono ?_
    rintro e w10 ⟨rfl, hf10⟩
    go_wp2
    go_ret
    exact ⟨rfl, ((hF2.trans0 hf38).trans0 hf9).trans0 hf10⟩
end Go.Proofs.Ytmbbmombhkaeoaa
