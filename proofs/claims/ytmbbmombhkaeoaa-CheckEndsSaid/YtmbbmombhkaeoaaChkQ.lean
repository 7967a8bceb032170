/-
  What was repaired, in plain Lean: nothing is amiss; repaired again nothing changes.
-/
import Derived.Test.YtmbbmombhkaeoaaCheckApart
namespace Go.Proofs.Ytmbbmombhkaeoaa
open Go.RowKit

theorem pick_nil {p : Nat → Bool} {m : Nat} (h : ∀ k, k < m → p k = false) : pickTo p m = [] := by
  induction m with
  | zero => rfl
  | succ m ih => rw [pickTo_succ, ih (fun k hk => h k (by omega)), h m (by omega)]; rfl
theorem cnt_nil {p : Nat → Bool} {m : Nat} (h : ∀ k, k < m → p k = false) : cntTo p m = 0 := by
  induction m with
  | zero => rfl
  | succ m ih => rw [cntTo_succ, ih (fun k hk => h k (by omega)), h m (by omega)]; rfl
theorem mapIdx_at (f : Nat → Slt → Slt) (l : List Slt) {k : Nat} (h : k < l.length) : (l.mapIdx f).getD k zS = f k (l.getD k zS) := by
  rw [List.getD_eq_getElem?_getD, List.getElem?_mapIdx, getD_some zS h]; rfl
/-- not bad: it has a cluster, or it says nothing of one -/
theorem bad_cases {s : Slt} {N : Nat} (h : badS s (N : Int) = false) : hasS s (N : Int) = true ∨ (hasS s (N : Int) = false ∧ s.1 ≠ 1 ∧ s.2.2 = false) := by
  cases hh : hasS s (N : Int) with
  | true => exact .inl rfl
  | false =>
    refine .inr ⟨rfl, ?_⟩
    unfold badS at h
    rw [hh] at h
    simp at h
    obtain ⟨h1, h2⟩ := h
    refine ⟨h2, ?_⟩
    unfold rightS at h1
    rw [if_neg h2] at h1
    obtain ⟨p, q, r⟩ := s
    simp at h1
    rcases h1 with h1 | h1 <;> simp_all
theorem fix1_bad (s : Slt) (N : Nat) : badS (fix1 N s) (N : Int) = false := by
  unfold fix1
  cases h : badS s (N : Int) with
  | true => rfl
  | false => exact h
theorem has_own (p q : Int) (r o : Bool) (N : Int) (h : hasS (p, q, r) N = true) : hasS (p, q, o) N = true := by
  unfold hasS rightS at *
  simp only [Bool.and_eq_true, decide_eq_true_eq] at h ⊢
  obtain ⟨⟨h1, h2⟩, h3⟩ := h
  rw [if_pos h2] at h1 ⊢
  exact ⟨⟨h1, h2⟩, h3⟩
/-- the second turn of what is not bad -/
theorem fix2_not {s : Slt} {N : Nat} (h : badS s (N : Int) = false) (l0 : Nat) (c : List Int) (m : Nat) : badS (fix2 N l0 c m s) (N : Int) = false ∧ hasS (fix2 N l0 c m s) (N : Int) = hasS s (N : Int) ∧ (fix2 N l0 c m s).1 = s.1 ∧ (fix2 N l0 c m s).2.1 = s.2.1 := by
  obtain ⟨p, q, r⟩ := s
  rcases bad_cases h with hh | ⟨hh, _, hr⟩
  · have := has_own p q r (own2 N l0 c m (p, q, r)) _ hh
    exact ⟨has_bad this, this.trans hh.symm, rfl, rfl⟩
  · simp only at hr
    subst hr
    have e : own2 N l0 c m (p, q, false) = false := by unfold own2; rw [hh]; rfl
    have e2 : fix2 N l0 c m (p, q, false) = (p, q, false) := by unfold fix2; rw [e]
    rw [e2]
    exact ⟨h, rfl, rfl, rfl⟩
theorem rc1_congr {m h : Int} : ∀ (a b : List Slt), a.length = b.length → (∀ k, k < a.length → hasS (a.getD k zS) m = hasS (b.getD k zS) m ∧ (a.getD k zS).2.1 = (b.getD k zS).2.1) → rc1 m h a = rc1 m h b
  | [], [], _, _ => rfl
  | [], _ :: _, hl, _ => by simp at hl
  | _ :: _, [], hl, _ => by simp at hl
  | x :: a, y :: b, hl, hk => by
    have h0 := hk 0 (by simp)
    have ih := rc1_congr (m := m) (h := h) a b (by simpa using hl) (fun k hk' => by have := hk (k + 1) (by simpa using hk'); simpa using this)
    simp only [List.getD_cons_zero] at h0
    have e1 : rc1 m h (x :: a) = rc1 m h [x] + rc1 m h a := rc1_append m h [x] a
    have e2 : rc1 m h (y :: b) = rc1 m h [y] + rc1 m h b := rc1_append m h [y] b
    rw [e1, e2, ih]
    congr 1
    simp [rc1, List.filter_cons, h0.1, h0.2]
    split <;> rfl
theorem rcL_congr {N : Nat} {a b : List Slt} (hl : a.length = b.length) (h : ∀ k, k < a.length → hasS (a.getD k zS) (N : Int) = hasS (b.getD k zS) (N : Int) ∧ (a.getD k zS).2.1 = (b.getD k zS).2.1) : rcL N a = rcL N b := by
  unfold rcL
  apply List.map_congr_left
  intro i _
  rw [rc1_congr a b hl h]
section
variable (N l0 : Nat) (fs : List Slt)
/-- what all slots are repaired to -/
def gsOf : List Slt := fs.mapIdx fun _ => fix1 N
def hsOf : List Slt := (gsOf N fs).mapIdx (fix2 N l0 (rcL N (gsOf N fs)))
theorem gs_length : (gsOf N fs).length = fs.length := by simp [gsOf]
theorem hs_length : (hsOf N l0 fs).length = fs.length := by simp [hsOf, gsOf]
theorem gs_at {k : Nat} (h : k < fs.length) : (gsOf N fs).getD k zS = fix1 N (fs.getD k zS) := mapIdx_at _ _ h
theorem hs_at {k : Nat} (h : k < fs.length) : (hsOf N l0 fs).getD k zS = fix2 N l0 (rcL N (gsOf N fs)) k ((gsOf N fs).getD k zS) := mapIdx_at _ _ (by rw [gs_length]; exact h)
theorem gs_not {k : Nat} (h : k < fs.length) : badS ((gsOf N fs).getD k zS) (N : Int) = false := by rw [gs_at N fs h]; exact fix1_bad _ _
theorem hs_not {k : Nat} (h : k < fs.length) : badS ((hsOf N l0 fs).getD k zS) (N : Int) = false := by rw [hs_at N l0 fs h]; exact (fix2_not (gs_not N fs h) _ _ _).1
theorem hs_rc : rcL N (hsOf N l0 fs) = rcL N (gsOf N fs) := by
  refine rcL_congr (by rw [hs_length, gs_length]) fun k hk => ?_
  rw [hs_length] at hk
  rw [hs_at N l0 fs hk]
  have := fix2_not (gs_not N fs hk) l0 (rcL N (gsOf N fs)) k
  exact ⟨this.2.1, this.2.2.2⟩
theorem hs_bad : pickTo (badAt N (hsOf N l0 fs)) (hsOf N l0 fs).length = [] := pick_nil fun k hk => hs_not N l0 fs (by rwa [hs_length] at hk)
theorem hs_own {k : Nat} (h : k < fs.length) : own2 N l0 (rcL N (gsOf N fs)) k ((hsOf N l0 fs).getD k zS) = ((hsOf N l0 fs).getD k zS).2.2 := by
  rw [hs_at N l0 fs h]
  have := fix2_not (gs_not N fs h) l0 (rcL N (gsOf N fs)) k
  generalize (gsOf N fs).getD k zS = s at *
  show own2 N l0 _ k _ = own2 N l0 _ k s
  unfold own2 at *
  rw [this.2.1, this.2.2.2]
theorem hs_wrong : pickTo (wrongAt N (hsOf N l0 fs) l0) (hsOf N l0 fs).length = [] := pick_nil fun k hk => by
  rw [hs_length] at hk
  have ho := hs_own N l0 fs hk
  unfold wrongAt
  rw [hs_rc]
  generalize (hsOf N l0 fs).getD k zS = s at *
  generalize rcL N (gsOf N fs) = c at *
  unfold own2 at ho
  unfold wrongS
  cases hh : hasS s (N : Int) with
  | false => rfl
  | true =>
    rw [hh] at ho
    simp only [Bool.true_and] at ho ⊢
    cases hr : s.2.2 with
    | true =>
      rw [hr] at ho
      simp only [Bool.and_eq_true] at ho
      simp only [if_true, ho.2, Bool.not_true]
    | false =>
      rw [hr] at ho
      simp only [Bool.false_eq_true, if_false]
      exact ho
/-- repaired again -/
theorem gs_hs : gsOf N (hsOf N l0 fs) = hsOf N l0 fs := by
  apply List.ext_getElem?
  intro k
  unfold gsOf
  rw [List.getElem?_mapIdx]
  by_cases h : k < fs.length
  · rw [getD_some zS (by rw [hs_length]; exact h)]
    have := hs_not N l0 fs h
    show some (fix1 N _) = some _
    unfold fix1
    rw [this]
    rfl
  · rw [List.getElem?_eq_none (by rw [hs_length]; omega)]; rfl
theorem hs_hs : hsOf N l0 (hsOf N l0 fs) = hsOf N l0 fs := by
  apply List.ext_getElem?
  intro k
  show ((gsOf N (hsOf N l0 fs)).mapIdx (fix2 N l0 (rcL N (gsOf N (hsOf N l0 fs)))))[k]? = _
  rw [gs_hs, hs_rc, List.getElem?_mapIdx]
  by_cases h : k < fs.length
  · rw [getD_some zS (by rw [hs_length]; exact h)]
    have := hs_own N l0 fs h
    show some (fix2 _ _ _ _ _) = some _
    unfold fix2
    rw [this]
  · rw [List.getElem?_eq_none (by rw [hs_length]; omega)]; rfl
theorem again_0 : cntTo (badAt N (hsOf N l0 fs)) (hsOf N l0 fs).length + cntTo (turn2 N l0 (rcL N (gsOf N (hsOf N l0 fs))) (gsOf N (hsOf N l0 fs))) (hsOf N l0 fs).length + cntTo (diffAt (rcL N (gsOf N fs)) (rcL N (gsOf N (hsOf N l0 fs)))) N = 0 := by
  rw [gs_hs, hs_rc, cnt_nil, cnt_nil, cnt_nil]
  · intro k _; unfold diffAt; simp
  · intro k hk
    rw [hs_length] at hk
    unfold turn2
    rw [hs_own N l0 fs hk]; simp
  · intro k hk
    exact hs_not N l0 fs (by rwa [hs_length] at hk)
/-- slots that have a cluster have the same one -/
theorem hs_has {k : Nat} (h : k < fs.length) (hh : hasS (fs.getD k zS) (N : Int) = true) : ((hsOf N l0 fs).getD k zS).1 = (fs.getD k zS).1 ∧ ((hsOf N l0 fs).getD k zS).2.1 = (fs.getD k zS).2.1 := by
  have := fix2_not (gs_not N fs h) l0 (rcL N (gsOf N fs)) k
  rw [hs_at N l0 fs h, this.2.2.1, this.2.2.2, gs_at N fs h]
  have hb := has_bad hh
  unfold fix1
  rw [hb]
  exact ⟨rfl, rfl⟩
theorem hs_hasnt {k : Nat} (h : k < fs.length) (hh : hasS (fs.getD k zS) (N : Int) = false) : ((hsOf N l0 fs).getD k zS).1 ≠ 1 := by
  have := fix2_not (gs_not N fs h) l0 (rcL N (gsOf N fs)) k
  rw [hs_at N l0 fs h, this.2.2.1, gs_at N fs h]
  unfold fix1
  cases hb : badS (fs.getD k zS) (N : Int) with
  | true => show zS.1 ≠ 1; decide
  | false =>
    rcases bad_cases hb with h1 | ⟨_, h1, _⟩
    · rw [hh] at h1; cases h1
    · simpa using h1
end
/-! ### counts, one more, one less -/
theorem more_self (c : List Int) (m : Nat) : pickTo (moreB c c) m = [] := pick_nil fun k _ => by simp [moreB]
theorem less_self (c : List Int) (m : Nat) : pickTo (lessB c c) m = [] := pick_nil fun k _ => by simp [lessB]
theorem pick_one {p : Nat → Bool} {m i : Nat} (hi : i < m) (h : ∀ k, p k = decide (k = i)) : pickTo p m = [(i : Int)] := by
  have : ∀ m, pickTo p m = if i < m then [(i : Int)] else [] := fun m => by
    induction m with
    | zero => rfl
    | succ m ih =>
      rw [pickTo_succ, ih, h m]
      by_cases h1 : i < m
      · simp [h1, show ¬ m = i by omega, show i < m + 1 by omega]
      · by_cases h2 : m = i
        · subst h2; simp
        · simp [h1, h2, show ¬ i < m + 1 by omega]
  rw [this, if_pos hi]
theorem set_at (c : List Int) {i : Nat} (hi : i < c.length) (x : Int) (k : Nat) : (c.set i x).getD k 0 = if k = i then x else c.getD k 0 := by
  rw [List.getD_eq_getElem?_getD, List.getElem?_set]
  by_cases h : i = k
  · subst h; simp [hi]
  · rw [if_neg h, if_neg (by omega), List.getD_eq_getElem?_getD]
theorem one_more (c : List Int) {i : Nat} (hi : i < c.length) : pickTo (moreB (c.set i (c.getD i 0 + 1)) c) c.length = [(i : Int)] ∧ pickTo (lessB (c.set i (c.getD i 0 + 1)) c) c.length = [] := by
  refine ⟨pick_one hi fun k => ?_, pick_nil fun k _ => ?_⟩
  · unfold moreB
    rw [set_at c hi]
    by_cases h : k = i
    · subst h; simp; omega
    · simp [h]
  · unfold lessB
    rw [set_at c hi]
    by_cases h : k = i
    · subst h; simp; omega
    · simp [h]
theorem one_less (c : List Int) {i : Nat} (hi : i < c.length) : pickTo (lessB (c.set i (c.getD i 0 - 1)) c) c.length = [(i : Int)] ∧ pickTo (moreB (c.set i (c.getD i 0 - 1)) c) c.length = [] := by
  refine ⟨pick_one hi fun k => ?_, pick_nil fun k _ => ?_⟩
  · unfold lessB
    rw [set_at c hi]
    by_cases h : k = i
    · subst h; simp; omega
    · simp [h]
  · unfold moreB
    rw [set_at c hi]
    by_cases h : k = i
    · subst h; simp; omega
    · simp [h]
end Go.Proofs.Ytmbbmombhkaeoaa
