/-
  A region that draws its order, in the words of XHeldL, by a tree: where two operations come up beside each other the walk parts. No program in sight.
-/
import Derived.Test.YtilhbjjjmdnjmaaM10
namespace Go.Proofs.Ytilhbjjjmdnjmaa
open Go

/-- a plan: what yields wherever it is taken; what comes up alone; two that come up beside each other -/
inductive Tr where
  | fin
  | take (k : Nat) (t : Tr)
  | one (k : Nat) (t : Tr)
  | two (k1 : Nat) (t1 : Tr) (k2 : Nat) (t2 : Tr)
def Tr.takes : List Nat → Tr → Tr
  | [], t => t
  | k :: l, t => .take k (Tr.takes l t)
def Tr.len : Tr → Nat
  | .fin => 0
  | .take _ t => t.len + 1
  | .one _ t => t.len + 1
  | .two _ t1 _ _ => t1.len + 1
section
variable {P : Program} {ops : Array Oper} {Q : Exit → Act → World → Prop} {d : Oper}
/-- an operation with an effect -/
def stepN (P : Program) (ops : Array Oper) (Q : Exit → Act → World → Prop) (S : World → Prop) (o : Oper) (K : (World → Prop) → Act → World → Prop) (a : Act) (w : World) : Prop :=
  if Region.wanted o (yielded ops a.tmps) then o.wp P a w (fun a' w' => ∃ S' : World → Prop, (∀ X, S' X → S X) ∧ S' w' ∧ K S' a' w') Q else K S (a.put o.dst undef) w
def wpN (P : Program) (ops : Array Oper) (d : Oper) (Q : Exit → Act → World → Prop) : Tr → (World → Prop) → Act → World → Prop
  | .fin, _, a, w => Q .normal a w
  | .take k t, S, a, w => ∃ v, YieldsIf P ops S (ops.toList.getD k d) v a ∧ wpN P ops d Q t S (a.put (ops.toList.getD k d).dst v) w
  | .one k t, S, a, w => stepN P ops Q S (ops.toList.getD k d) (wpN P ops d Q t) a w
  | .two k1 t1 k2 t2, S, a, w => stepN P ops Q S (ops.toList.getD k1 d) (wpN P ops d Q t1) a w ∧ stepN P ops Q S (ops.toList.getD k2 d) (wpN P ops d Q t2) a w
def fN (md : Region.Mode) (ops : Array Oper) : Tr → Array Bool → Bool
  | .fin, listed => (Region.ready md ops listed).isEmpty
  | .take k t, listed => decide (k < ops.size) && Region.free md ops listed k && (Region.ready md ops listed).contains k && fN md ops t (listed.setIfInBounds k true)
  | .one k t, listed => decide (k < ops.size) && decide (Region.ready md ops listed = [k]) && fN md ops t (listed.setIfInBounds k true)
  | .two k1 t1 k2 t2, listed => decide (k1 < ops.size) && decide (k2 < ops.size) && decide (t1.len = t2.len) && decide (Region.ready md ops listed = [k1, k2]) && fN md ops t1 (listed.setIfInBounds k1 true) && fN md ops t2 (listed.setIfInBounds k2 true)
theorem wpAnyH_N {md : Region.Mode} (hs : Region.noSelect ops = true) (hQ : ∀ c a a' w, Q (.panic c) a w → Q (.panic c) a' w) : ∀ (t : Tr) (S : World → Prop) (listed : Array Bool) (a : Act) (w : World),
    fN md ops t listed = true → S w → wpN P ops d Q t S a w → wpAnyH P md ops Q S t.len listed a w
  | .fin, S, listed, a, w, hB, _, h => by
    refine wpAnyH_done ?_ h _
    simpa [fN] using hB
  | .take k t, S, listed, a, w, hB, hS, h => by
    simp only [fN, Bool.and_eq_true, decide_eq_true_eq] at hB
    obtain ⟨⟨⟨hk, hf⟩, hr⟩, hB⟩ := hB
    have h0 : ops[k]? = some (ops.toList.getD k d) := by simp [hk]
    obtain ⟨v, hy, h⟩ := h
    exact wpAnyH_take h0 hs hf hr (fun c a w => hQ c _ _ w) hy hS (wpAnyH_N hs hQ t S _ _ w hB hS h)
  | .one k t, S, listed, a, w, hB, hS, h => by
    simp only [fN, Bool.and_eq_true, decide_eq_true_eq] at hB
    obtain ⟨⟨hk, hr⟩, hB⟩ := hB
    have h0 : ops[k]? = some (ops.toList.getD k d) := by simp [hk]
    refine wpAnyH_all hr (by simp) fun i hi => ?_
    obtain rfl : i = k := by simpa using hi
    refine wpOp_step h0 fun K' hK => ?_
    replace h : stepN P ops Q S (ops.toList.getD i d) (wpN P ops d Q t) a w := h
    unfold stepN at h
    split at h
    · rename_i hw
      rw [if_pos hw]
      exact Oper.wp_mono (fun a w h => let ⟨S', g1, g2, g3⟩ := h; hK _ _ ⟨g1 _ g2, anyH_S g1 _ _ _ _ (wpAnyH_N hs hQ t S' _ a w hB g2 g3)⟩) h
    · rename_i hw
      rw [if_neg hw]
      exact hK _ _ ⟨hS, wpAnyH_N hs hQ t S _ _ w hB hS h⟩
  | .two k1 t1 k2 t2, S, listed, a, w, hB, hS, h => by
    simp only [fN, Bool.and_eq_true, decide_eq_true_eq] at hB
    obtain ⟨⟨⟨⟨⟨hk1, hk2⟩, hl⟩, hr⟩, hB1⟩, hB2⟩ := hB
    have h01 : ops[k1]? = some (ops.toList.getD k1 d) := by simp [hk1]
    have h02 : ops[k2]? = some (ops.toList.getD k2 d) := by simp [hk2]
    refine wpAnyH_all hr (by simp) fun i hi => ?_
    rcases List.mem_cons.1 hi with rfl | hi
    · refine wpOp_step h01 fun K' hK => ?_
      have h := h.1
      unfold stepN at h
      split at h
      · rename_i hw
        rw [if_pos hw]
        exact Oper.wp_mono (fun a w h => let ⟨S', g1, g2, g3⟩ := h; hK _ _ ⟨g1 _ g2, anyH_S g1 _ _ _ _ (wpAnyH_N hs hQ t1 S' _ a w hB1 g2 g3)⟩) h
      · rename_i hw
        rw [if_neg hw]
        exact hK _ _ ⟨hS, wpAnyH_N hs hQ t1 S _ _ w hB1 hS h⟩
    · obtain rfl : i = k2 := by simpa using hi
      refine wpOp_step h02 fun K' hK => ?_
      have h := h.2
      rw [hl] at hK
      unfold stepN at h
      split at h
      · rename_i hw
        rw [if_pos hw]
        exact Oper.wp_mono (fun a w h => let ⟨S', g1, g2, g3⟩ := h; hK _ _ ⟨g1 _ g2, anyH_S g1 _ _ _ _ (wpAnyH_N hs hQ t2 S' _ a w hB2 g2 g3)⟩) h
      · rename_i hw
        rw [if_neg hw]
        exact hK _ _ ⟨hS, wpAnyH_N hs hQ t2 S _ _ w hB2 hS h⟩
def nB (ops : Array Oper) (t : Tr) : Bool := plainOps ops && (Region.noSelect ops && decide (t.len = ops.size) && fN .any ops t (Array.replicate ops.size false))
theorem wp_region_N {id : Nat} {a : Act} {w : World} {o : Oper} {l : List Oper} (S : World → Prop) (t : Tr) (hm : P.follows .mixedOrders = true) (hB : nB (o :: l).toArray t = true) (hS : S w.drew)
    (h : wpN P (o :: l).toArray o (noEnd Q) t S a w.drew) : (Code.region id (o :: l).toArray true).wp P Q a w := by
  refine Code.wp_mono noEnd_imp (wp_region_any hm ?_)
  simp only [nB, Bool.and_eq_true, decide_eq_true_eq] at hB
  obtain ⟨_, ⟨hs, ht⟩, hB⟩ := hB
  have := wpAnyH_N (P := P) (Q := noEnd Q) (md := .any) (d := o) hs (fun _ _ _ _ h => h) t S (Array.replicate (o :: l).toArray.size false) a w.drew hB hS h
  rw [ht] at this
  exact wpAny_of_held _ _ _ _ this
variable {a : Act} {w : World} {S : World → Prop} {k : Nat} {t : Tr} {o : Oper}
theorem wpN_end (h : Q .normal a w) : wpN P ops d (noEnd Q) .fin S a w := h
theorem wpN_pure (ho : ops.toList.getD k d = o) (h : ∀ K : Act → Prop, (∀ a, wpN P ops d Q t S a w → K a) → if Region.wanted o (yielded ops a.tmps) then ∃ v, (∀ w, (execOp a.eval o).run P w = .ok (.value v) w) ∧ K (a.put o.dst v) else K (a.put o.dst undef)) :
    wpN P ops d Q (.take k t) S a w := by
  subst ho
  have := h (fun a => wpN P ops d Q t S a w) (fun _ h => h)
  by_cases hw : Region.wanted (ops.toList.getD k d) (yielded ops a.tmps) = true
  · rw [if_pos hw] at this
    obtain ⟨v, h1, h2⟩ := this
    exact ⟨v, .inl ⟨hw, fun w _ => h1 w⟩, h2⟩
  · rw [if_neg hw] at this
    exact ⟨undef, .inr ⟨by simpa using hw, rfl⟩, this⟩
theorem wpN_val (ho : ops.toList.getD k d = o) (v : Value) (hw : Region.wanted o (yielded ops a.tmps) = true) (hr : ∀ W, S W → (execOp a.eval o).run P W = .ok (.value v) W) (h : wpN P ops d Q t S (a.put o.dst v) w) : wpN P ops d Q (.take k t) S a w := by
  subst ho
  exact ⟨v, .inl ⟨hw, hr⟩, h⟩
theorem stepN_oneS {K0 : (World → Prop) → Act → World → Prop} (h : ∀ K : Act → World → Prop, (∀ S' : World → Prop, (∀ X, S' X → S X) → ∀ a w, S' w → K0 S' a w → K a w) → if Region.wanted o (yielded ops a.tmps) then o.wp P a w K Q else K0 S (a.put o.dst undef) w) : stepN P ops Q S o K0 a w := by
  have := h (fun a w => ∃ S' : World → Prop, (∀ X, S' X → S X) ∧ S' w ∧ K0 S' a w) (fun S' h0 _ _ h1 h2 => ⟨S', h0, h1, h2⟩)
  exact this
theorem stepN_one {K0 : (World → Prop) → Act → World → Prop} (h : ∀ K : Act → World → Prop, (∀ a w, S w → K0 S a w → K a w) → if Region.wanted o (yielded ops a.tmps) then o.wp P a w K Q else K0 S (a.put o.dst undef) w) : stepN P ops Q S o K0 a w :=
  stepN_oneS fun K hK => h K fun a w => hK S (fun _ h => h) a w
theorem wpN_one (ho : ops.toList.getD k d = o) (h : ∀ K : Act → World → Prop, (∀ a w, S w → wpN P ops d Q t S a w → K a w) → if Region.wanted o (yielded ops a.tmps) then o.wp P a w K Q else wpN P ops d Q t S (a.put o.dst undef) w) : wpN P ops d Q (.one k t) S a w := by
  subst ho
  exact stepN_one h
theorem wpN_two {k2 : Nat} {t2 : Tr} {o2 : Oper} (ho : ops.toList.getD k d = o) (ho2 : ops.toList.getD k2 d = o2)
    (h : ∀ K : Act → World → Prop, (∀ a w, S w → wpN P ops d Q t S a w → K a w) → if Region.wanted o (yielded ops a.tmps) then o.wp P a w K Q else wpN P ops d Q t S (a.put o.dst undef) w)
    (h2 : ∀ K : Act → World → Prop, (∀ a w, S w → wpN P ops d Q t2 S a w → K a w) → if Region.wanted o2 (yielded ops a.tmps) then o2.wp P a w K Q else wpN P ops d Q t2 S (a.put o2.dst undef) w) : wpN P ops d Q (.two k t k2 t2) S a w := by
  subst ho
  subst ho2
  exact ⟨stepN_one h, stepN_one h2⟩
end
end Go.Proofs.Ytilhbjjjmdnjmaa
