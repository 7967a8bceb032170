/-
  What was repaired, repaired and looked at again: counts, as ints hold them.
-/
import Derived.Test.YtmbbmombhkaeoaaWkQ
import Derived.Test.YtmbbmombhkaeoaaWkL
namespace Go.Proofs.Ytmbbmombhkaeoaa
open Go.RowKit Go.Maps

section
variable (N l0 : Nat) (fs : List Slt)
theorem hsW_wrong_at {k : Nat} (hk : k < fs.length) : wrongAtW N (hsW N l0 fs) l0 k = false := by
  have ho := hsW_own N l0 fs hk
  unfold wrongAtW
  rw [hsW_rc]
  generalize (hsW N l0 fs).getD k zS = s at *
  generalize rcW N (gsOf N fs) = c at *
  unfold own2 at ho
  unfold wrongS
  cases hh : hasS s (N : Int) with
  | false => rfl
  | true =>
    rw [hh] at ho
    simp only [Bool.true_and] at ho ⊢
    cases hr : s.2.2 with
    | true =>
      rw [hr] at ho
      simp only [Bool.and_eq_true] at ho
      simp only [if_true, ho.2, Bool.not_true]
    | false =>
      rw [hr] at ho
      simp only [Bool.false_eq_true, if_false]
      exact ho
/-- repaired again -/
theorem gsW_hs : gsOf N (hsW N l0 fs) = hsW N l0 fs := by
  apply List.ext_getElem?
  intro k
  unfold gsOf
  rw [List.getElem?_mapIdx]
  by_cases h : k < fs.length
  · rw [getD_some zS (by rw [hsW_length]; exact h)]
    have := hsW_not N l0 fs h
    show some (fix1 N _) = some _
    unfold fix1
    rw [this]
    rfl
  · rw [List.getElem?_eq_none (by rw [hsW_length]; omega)]; rfl
theorem hsW_hs : hsW N l0 (hsW N l0 fs) = hsW N l0 fs := by
  apply List.ext_getElem?
  intro k
  show ((gsOf N (hsW N l0 fs)).mapIdx (fix2 N l0 (rcW N (gsOf N (hsW N l0 fs)))))[k]? = _
  rw [gsW_hs, hsW_rc, List.getElem?_mapIdx]
  by_cases h : k < fs.length
  · rw [getD_some zS (by rw [hsW_length]; exact h)]
    have := hsW_own N l0 fs h
    show some (fix2 _ _ _ _ _) = some _
    unfold fix2
    rw [this]
  · rw [List.getElem?_eq_none (by rw [hsW_length]; omega)]; rfl
theorem againW_0 : cntTo (badAt N (hsW N l0 fs)) (hsW N l0 fs).length + cntTo (turn2 N l0 (rcW N (gsOf N (hsW N l0 fs))) (gsOf N (hsW N l0 fs))) (hsW N l0 fs).length + cntTo (diffAt (rcW N (gsOf N fs)) (rcW N (gsOf N (hsW N l0 fs)))) N = 0 := by
  rw [gsW_hs, hsW_rc, cnt_nil, cnt_nil, cnt_nil]
  · intro k _; unfold diffAt; simp
  · intro k hk
    rw [hsW_length] at hk
    unfold turn2
    rw [hsW_own N l0 fs hk]; simp
  · intro k hk
    exact hsW_not N l0 fs (by rwa [hsW_length] at hk)
/-- slots that have a cluster have the same one -/
theorem hsW_has {k : Nat} (h : k < fs.length) (hh : hasS (fs.getD k zS) (N : Int) = true) : ((hsW N l0 fs).getD k zS).1 = (fs.getD k zS).1 ∧ ((hsW N l0 fs).getD k zS).2.1 = (fs.getD k zS).2.1 := by
  have := fix2_not (gs_not N fs h) l0 (rcW N (gsOf N fs)) k
  rw [hsW_at N l0 fs h, this.2.2.1, this.2.2.2, gs_at N fs h]
  have hb := has_bad hh
  unfold fix1
  rw [hb]
  exact ⟨rfl, rfl⟩
theorem hsW_hasnt {k : Nat} (h : k < fs.length) (hh : hasS (fs.getD k zS) (N : Int) = false) : ((hsW N l0 fs).getD k zS).1 ≠ 1 := by
  have := fix2_not (gs_not N fs h) l0 (rcW N (gsOf N fs)) k
  rw [hsW_at N l0 fs h, this.2.2.1, gs_at N fs h]
  unfold fix1
  cases hb : badS (fs.getD k zS) (N : Int) with
  | true => show zS.1 ≠ 1; decide
  | false =>
    rcases bad_cases hb with h1 | ⟨_, h1, _⟩
    · rw [hh] at h1; cases h1
    · simpa using h1
end
/-- Look at what was repaired -/
theorem Look_repW (vn vo : Value) (vs : List Value) (n : List Int) (ls ls2 : List (List Slt)) (base : Nat) (w : World) (hn : SlI w vn n) (hO : OutV w base vo vs ls2) (hl : ls2.map List.length = ls.map List.length) (N : Nat) (hN : n.length = N)
    (hf : ls2.flatten = hsW N (len0 ls) ls.flatten) (ht : Bnd ls) (hm : N ≤ 1048576) :
    Calls Try.prog 10 #[vn, vo] w fun e w' => ∃ v0 v1 v2 v3, e = .returned (.agg #[v0, v1, v2, v3]) ∧ SlI w' v0 (pickTo (moreB n (rcW N (gsOf N ls.flatten))) N) ∧ SlI w' v1 (pickTo (lessB n (rcW N (gsOf N ls.flatten))) N) ∧ SlI w' v2 [] ∧ SlI w' v3 [] ∧ Fr [] w w' ∧
      ∀ b, v0.ownBlock = some b ∨ v1.ownBlock = some b ∨ v2.ownBlock = some b ∨ v3.ownBlock = some b → w.heap.size ≤ b := by
  subst hN
  have hcb : ∀ k, k < ls2.flatten.length → badAt n.length ls2.flatten k = false := by
    rw [hf]; intro k hk; rw [hsW_length] at hk; exact hsW_not n.length (len0 ls) ls.flatten hk
  have hcw : ∀ k, k < ls2.flatten.length → wrongAtW n.length ls2.flatten (len0 ls2) k = false := by
    rw [hf, len0_lens hl]; intro k hk; rw [hsW_length] at hk; exact hsW_wrong_at n.length (len0 ls) ls.flatten hk
  refine (Look_callsW vn vo n ls2 w hn hO.slr (bnd_lens hl ht) hm hcb hcw).mono ?_
  rintro e w' ⟨v0, v1, v2, v3, he, s0, s1, s2, s3, hF, hb⟩
  rw [pick_nil hcb] at s2
  rw [pick_nil hcw] at s3
  rw [hf, hsW_rc] at s0 s1
  exact ⟨v0, v1, v2, v3, he, s0, s1, s2, s3, hF, hb⟩
/-- Repair, again -/
theorem Repair_repW (vn vo : Value) (vs : List Value) (ls ls2 : List (List Slt)) (base : Nat) (w : World) (N : Nat) (hn : SlI w vn (rcW N (gsOf N ls.flatten))) (hO : OutV w base vo vs ls2) (hl : ls2.map List.length = ls.map List.length)
    (hf : ls2.flatten = hsW N (len0 ls) ls.flatten) (ht : Bnd ls) (hm : N ≤ 1048576) :
    Calls Try.prog 15 #[vn, vo] w fun e w' => ∃ v0 v1, e = .returned (.tuple #[v0, v1, .int .i64 0]) ∧ SlI w' v0 (rcW N (gsOf N ls.flatten)) ∧ SlR w' v1 ls2 ∧ Fr [] w w' := by
  have hcl : (rcW N (gsOf N ls.flatten)).length = N := rcW_length _ _
  refine (Repair_callsW vn vo _ ls2 w hn hO.slr (bnd_lens hl ht) (by rw [hcl]; exact hm)).mono ?_
  rintro e w' ⟨v0, v1, vs', ls', he, ho, hO', hl', hf', hF⟩
  rw [hcl] at ho hf' he
  have e0 := againW_0 N (len0 ls) ls.flatten
  have e1 : (ls2.flatten.mapIdx fun _ => fix1 N) = gsOf N ls2.flatten := rfl
  rw [e1, len0_lens hl, hf, e0, wz_zero] at he
  rw [e1, hf, gsW_hs, hsW_rc] at ho
  have e2 : (gsOf N ls2.flatten).mapIdx (fix2 N (len0 ls2) (rcW N (gsOf N ls2.flatten))) = hsW N (len0 ls2) ls2.flatten := rfl
  rw [e1, e2, len0_lens hl, hf, hsW_hs] at hf'
  have e3 : ls' = ls2 := eq_of_flat _ _ hl' (by rw [hf', hf])
  subst e3
  exact ⟨v0, v1, he, SlF.of_owns (by rw [hcl]; exact ho), hO'.slr, hF⟩
end Go.Proofs.Ytmbbmombhkaeoaa
