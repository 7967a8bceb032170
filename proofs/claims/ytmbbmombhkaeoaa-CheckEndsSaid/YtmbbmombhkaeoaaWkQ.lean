/-
  What was repaired, in plain Lean, with counts as ints hold them.
-/
import Derived.Test.YtmbbmombhkaeoaaChkR
import Derived.Test.YtmbbmombhkaeoaaWkN
namespace Go.Proofs.Ytmbbmombhkaeoaa
open Go.RowKit

theorem rcW_congr {N : Nat} {a b : List Slt} (hl : a.length = b.length) (h : ∀ k, k < a.length → hasS (a.getD k zS) (N : Int) = hasS (b.getD k zS) (N : Int) ∧ (a.getD k zS).2.1 = (b.getD k zS).2.1) : rcW N a = rcW N b := by
  unfold rcW
  apply List.map_congr_left
  intro i _
  rw [rc1_congr a b hl h]
section
variable (N l0 : Nat) (fs : List Slt)
def hsW : List Slt := (gsOf N fs).mapIdx (fix2 N l0 (rcW N (gsOf N fs)))
theorem hsW_length : (hsW N l0 fs).length = fs.length := by simp [hsW, gsOf]
theorem hsW_at {k : Nat} (h : k < fs.length) : (hsW N l0 fs).getD k zS = fix2 N l0 (rcW N (gsOf N fs)) k ((gsOf N fs).getD k zS) := mapIdx_at _ _ (by rw [gs_length]; exact h)
theorem hsW_not {k : Nat} (h : k < fs.length) : badS ((hsW N l0 fs).getD k zS) (N : Int) = false := by rw [hsW_at N l0 fs h]; exact (fix2_not (gs_not N fs h) _ _ _).1
theorem hsW_rc : rcW N (hsW N l0 fs) = rcW N (gsOf N fs) := by
  refine rcW_congr (by rw [hsW_length, gs_length]) fun k hk => ?_
  rw [hsW_length] at hk
  rw [hsW_at N l0 fs hk]
  have := fix2_not (gs_not N fs hk) l0 (rcW N (gsOf N fs)) k
  exact ⟨this.2.1, this.2.2.2⟩
theorem hsW_own {k : Nat} (h : k < fs.length) : own2 N l0 (rcW N (gsOf N fs)) k ((hsW N l0 fs).getD k zS) = ((hsW N l0 fs).getD k zS).2.2 := by
  rw [hsW_at N l0 fs h]
  have := fix2_not (gs_not N fs h) l0 (rcW N (gsOf N fs)) k
  generalize (gsOf N fs).getD k zS = s at *
  show own2 N l0 _ k _ = own2 N l0 _ k s
  unfold own2 at *
  rw [this.2.1, this.2.2.2]
end
theorem gsW_rc (N : Nat) (fs : List Slt) : rcW N (gsOf N fs) = rcW N fs := by
  unfold rcW
  apply List.map_congr_left
  intro i _
  suffices key : rc1 (N : Int) (i : Int) (gsOf N fs) = rc1 (N : Int) (i : Int) fs by rw [key]
  refine rc1_pred _ _ (gs_length N fs) fun k hk => ?_
  rw [gs_length] at hk
  rw [gs_at N fs hk]
  unfold fix1
  cases hb : badS (fs.getD k zS) (N : Int) with
  | false => rfl
  | true => rw [has_not_bad hb]; rfl
theorem chgW_count (N l0 : Nat) (fs : List Slt) : cntTo (chgAt fs (hsW N l0 fs)) fs.length = cntTo (badAt N fs) fs.length + cntTo (turn2 N l0 (rcW N (gsOf N fs)) (gsOf N fs)) fs.length := by
  refine cntTo_add fun k hk => ?_
  unfold chgAt badAt turn2
  rw [hsW_at N l0 fs hk, gs_at N fs hk]
  have hnb := hsW_not N l0 fs hk
  rw [hsW_at N l0 fs hk, gs_at N fs hk] at hnb
  generalize rcW N (gsOf N fs) = c at *
  generalize fs.getD k zS = s at *
  cases hb : badS s (N : Int) with
  | true =>
    have e1 : fix1 N s = zS := by unfold fix1; rw [hb]; rfl
    have e2 : hasS zS (N : Int) = false := rfl
    have e3 : own2 N l0 c k zS = false := by unfold own2; rw [e2]; rfl
    rw [e1] at hnb ⊢
    constructor
    · cases hq : sEq (fix2 N l0 c k zS) s with
      | false => rfl
      | true => rw [(sEq_iff _ _).1 hq] at hnb; rw [hnb] at hb; cases hb
    · rw [e3]; rfl
  | false =>
    have e1 : fix1 N s = s := by unfold fix1; rw [hb]; rfl
    rw [e1]
    refine ⟨?_, rfl⟩
    obtain ⟨p, q, r⟩ := s
    unfold fix2
    simp only [Bool.false_or]
    generalize own2 N l0 c k (p, q, r) = o
    cases o <;> cases r <;> simp [sEq]
end Go.Proofs.Ytmbbmombhkaeoaa
