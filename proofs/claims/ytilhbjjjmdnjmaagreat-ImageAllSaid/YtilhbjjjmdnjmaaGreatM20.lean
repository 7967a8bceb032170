/-
  A region that draws its order, in the words of XHeldL, in which two operations come up beside each other: one walk up to there, two from there on. No program in sight.
-/
import Derived.Test.YtilhbjjjmdnjmaaGreatM10
namespace Go.Proofs.YtilhbjjjmdnjmaaGreat
open Go
section
variable {P : Program} {ops : Array Oper} {Q : Exit → Act → World → Prop} {S : World → Prop}
def wpB2 (P : Program) (ops : Array Oper) (S : World → Prop) (Q : Exit → Act → World → Prop) (l1 l2 : List (Bool × Oper)) : List Oper → Act → World → Prop
  | [], a, w => wpG P ops S Q l1 a w ∧ wpG P ops S Q l2 a w
  | o :: rest, a, w => ∃ v, YieldsIf P ops S o v a ∧ wpB2 P ops S Q l1 l2 rest (a.put o.dst v) w
def fB2 (md : Region.Mode) (ops : Array Oper) (k1 k2 : Nat) (r1 r2 : List (Bool × Nat)) : List Nat → Array Bool → Bool
  | [], listed => decide (Region.ready md ops listed = [k1, k2]) && fB md ops r1 (listed.setIfInBounds k1 true) && fB md ops r2 (listed.setIfInBounds k2 true)
  | k :: rest, listed => Region.free md ops listed k && (Region.ready md ops listed).contains k && fB2 md ops k1 k2 r1 r2 rest (listed.setIfInBounds k true)
theorem wpAnyH_B2 {md : Region.Mode} (hs : Region.noSelect ops = true) (hQ : ∀ c a a' w, Q (.panic c) a w → Q (.panic c) a' w) (d : Oper) (k1 k2 : Nat) (r1 r2 : List (Bool × Nat)) (hr : r1.length = r2.length) (hk1 : k1 < ops.size) (hk2 : k2 < ops.size) (hr1 : ∀ p ∈ r1, p.2 < ops.size) (hr2 : ∀ p ∈ r2, p.2 < ops.size) : ∀ (l : List Nat) (listed : Array Bool) (a : Act) (w : World), (∀ p ∈ l, p < ops.size) →
    fB2 md ops k1 k2 r1 r2 l listed = true → S w → wpB2 P ops S Q (inOrder ops.toList d ((false, k1) :: r1)) (inOrder ops.toList d ((false, k2) :: r2)) (l.map fun k => ops.toList.getD k d) a w → wpAnyH P md ops Q S (l.length + 1 + r1.length) listed a w
  | [], listed, a, w, _, hB, hS, h => by
    simp only [fB2, Bool.and_eq_true, decide_eq_true_eq] at hB
    obtain ⟨h1, h2⟩ := h
    have key : ∀ (k : Nat) (r : List (Bool × Nat)) (hk : k < ops.size) (hr : ∀ p ∈ r, p.2 < ops.size), fB md ops r (listed.setIfInBounds k true) = true → wpG P ops S Q (inOrder ops.toList d ((false, k) :: r)) a w → wpOp P ops Q k (fun a' w' => S w' ∧ wpAnyH P md ops Q S r.length (listed.setIfInBounds k true) a' w') a w := by
      intro k r hk hr hf h
      have h0 : ops[k]? = some (ops.toList.getD k d) := by simp [hk]
      refine wpOp_step h0 fun K' hK => ?_
      replace h : wpG P ops S Q ((false, ops.toList.getD k d) :: inOrder ops.toList d r) a w := h
      unfold wpG at h
      split at h
      · rename_i hw
        rw [if_pos hw]
        exact Oper.wp_mono (fun a w h => let ⟨S', g1, g2, g3⟩ := h; hK _ _ ⟨g1 _ g2, anyH_S g1 _ _ _ _ (wpAnyH_G hs hQ d r S' _ a w hr hf g2 g3)⟩) h
      · rename_i hw
        rw [if_neg hw]
        exact hK _ _ ⟨hS, wpAnyH_G hs hQ d r S _ _ w hr hf hS h⟩
    have hlen : ([] : List Nat).length + 1 + r1.length = r1.length + 1 := by simp; omega
    rw [hlen]
    refine wpAnyH_all hB.1.1 (by simp) fun i hi => ?_
    rcases List.mem_cons.1 hi with rfl | hi
    · exact key _ r1 hk1 hr1 hB.1.2 h1
    · obtain rfl : i = k2 := by simpa using hi
      rw [hr]
      exact key _ r2 hk2 hr2 hB.2 h2
  | k :: l, listed, a, w, hl, hB, hS, h => by
    have hk : k < ops.size := hl _ List.mem_cons_self
    have h0 : ops[k]? = some (ops.toList.getD k d) := by simp [hk]
    simp only [fB2, Bool.and_eq_true] at hB
    obtain ⟨v, hy, h⟩ := h
    have hlen : (k :: l).length + 1 + r1.length = (l.length + 1 + r1.length) + 1 := by simp; omega
    rw [hlen]
    exact wpAnyH_take h0 hs hB.1.1 hB.1.2 (fun c a w => hQ c _ _ w) hy hS (wpAnyH_B2 hs hQ d k1 k2 r1 r2 hr hk1 hk2 hr1 hr2 l _ _ w (fun p hp => hl p (List.mem_cons_of_mem _ hp)) hB.2 hS h)
def b2B (ops : Array Oper) (l : List Nat) (k1 k2 : Nat) (r1 r2 : List (Bool × Nat)) : Bool :=
  plainOps ops && (Region.noSelect ops && decide (r1.length = r2.length) && decide (l.length + 1 + r1.length = ops.size) && decide (k1 < ops.size) && decide (k2 < ops.size) && l.all (fun p => decide (p < ops.size)) && r1.all (fun p => decide (p.2 < ops.size)) && r2.all (fun p => decide (p.2 < ops.size)) && fB2 .any ops k1 k2 r1 r2 l (Array.replicate ops.size false))
theorem wp_region_B2 {id : Nat} {a : Act} {w : World} {o : Oper} {l : List Oper} (S : World → Prop) (p : List Nat) (k1 k2 : Nat) (r1 r2 : List (Bool × Nat)) (hm : P.follows .mixedOrders = true) (hB : b2B (o :: l).toArray p k1 k2 r1 r2 = true) (hS : S w.drew)
    (h : wpB2 P (o :: l).toArray S (noEnd Q) (inOrder (o :: l) o ((false, k1) :: r1)) (inOrder (o :: l) o ((false, k2) :: r2)) (p.map fun k => (o :: l).getD k o) a w.drew) : (Code.region id (o :: l).toArray true).wp P Q a w := by
  refine Code.wp_mono noEnd_imp (wp_region_any hm ?_)
  simp only [b2B, Bool.and_eq_true, decide_eq_true_eq, List.all_eq_true] at hB
  obtain ⟨_, ⟨⟨⟨⟨⟨⟨⟨hs, hr⟩, ht⟩, hk1⟩, hk2⟩, hp⟩, h1⟩, h2⟩, hB⟩ := hB
  have := wpAnyH_B2 (P := P) (Q := noEnd Q) (md := .any) hs (fun _ _ _ _ h => h) o k1 k2 r1 r2 hr hk1 hk2 (fun p hp => h1 p hp) (fun p hp => h2 p hp) p (Array.replicate (o :: l).toArray.size false) a w.drew (fun q hq => hp q hq) hB hS h
  rw [ht] at this
  exact wpAny_of_held _ _ _ _ this
variable {a : Act} {w : World} {rest : List Oper} {o : Oper} {l1 l2 : List (Bool × Oper)}
theorem wpB2_end (h1 : wpG P ops S Q l1 a w) (h2 : wpG P ops S Q l2 a w) : wpB2 P ops S Q l1 l2 [] a w := ⟨h1, h2⟩
theorem wpB2_pure (h : ∀ K : Act → Prop, (∀ a, wpB2 P ops S Q l1 l2 rest a w → K a) → if Region.wanted o (yielded ops a.tmps) then ∃ v, (∀ w, (execOp a.eval o).run P w = .ok (.value v) w) ∧ K (a.put o.dst v) else K (a.put o.dst undef)) :
    wpB2 P ops S Q l1 l2 (o :: rest) a w := by
  have := h (fun a => wpB2 P ops S Q l1 l2 rest a w) (fun _ h => h)
  by_cases hw : Region.wanted o (yielded ops a.tmps) = true
  · rw [if_pos hw] at this
    obtain ⟨v, h1, h2⟩ := this
    exact ⟨v, .inl ⟨hw, fun w _ => h1 w⟩, h2⟩
  · rw [if_neg hw] at this
    exact ⟨undef, .inr ⟨by simpa using hw, rfl⟩, this⟩
theorem wpB2_val (v : Value) (hw : Region.wanted o (yielded ops a.tmps) = true) (hr : ∀ W, S W → (execOp a.eval o).run P W = .ok (.value v) W) (h : wpB2 P ops S Q l1 l2 rest (a.put o.dst v) w) : wpB2 P ops S Q l1 l2 (o :: rest) a w :=
  ⟨v, .inl ⟨hw, hr⟩, h⟩
end
end Go.Proofs.YtilhbjjjmdnjmaaGreat
