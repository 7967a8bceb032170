/-
  A region that draws its order, in the words of XHeld, at whatever condition S on the worlds that come up in it: in an activation, and in a round of a range over a function. No program in sight.
-/
import Derived.Test.YtmbbmombhkaeoaaHeldIn
namespace Go.Proofs.Ytmbbmombhkaeoaa
open Go
section
variable {P : Program} {ops : Array Oper} {Q : Exit → Act → World → Prop} {S : World → Prop}
/-- 'true': it yields in every world of S; 'false': it comes up alone, and leaves such a world -/
def wpG (P : Program) (ops : Array Oper) (S : World → Prop) (Q : Exit → Act → World → Prop) : List (Bool × Oper) → Act → World → Prop
  | [], a, w => Q .normal a w
  | (true, o) :: rest, a, w => ∃ v, YieldsIf P ops S o v a ∧ wpG P ops S Q rest (a.put o.dst v) w
  | (false, o) :: rest, a, w => if Region.wanted o (yielded ops a.tmps) then o.wp P a w (fun a' w' => ∃ S' : World → Prop, (∀ X, S' X → S X) ∧ S' w' ∧ wpG P ops S' Q rest a' w') Q else wpG P ops S Q rest (a.put o.dst undef) w
theorem anyH_S {md : Region.Mode} {S' : World → Prop} (hS : ∀ X, S' X → S X) : ∀ (n : Nat) (listed : Array Bool) (a : Act) (w : World), wpAnyH P md ops Q S' n listed a w → wpAnyH P md ops Q S n listed a w
  | 0, _, _, _, h => h
  | n + 1, _, _, _, h => ⟨h.1, fun i hi => wpOp_mono (fun a' w' h' => ⟨hS _ h'.1, anyH_S hS n _ a' w' h'.2⟩) (h.2 i hi)⟩
theorem wpAnyH_G {md : Region.Mode} (hs : Region.noSelect ops = true) (hQ : ∀ c a a' w, Q (.panic c) a w → Q (.panic c) a' w) (d : Oper) : ∀ (l : List (Bool × Nat)) (S : World → Prop) (listed : Array Bool) (a : Act) (w : World), (∀ p ∈ l, p.2 < ops.size) →
    fB md ops l listed = true → S w → wpG P ops S Q (inOrder ops.toList d l) a w → wpAnyH P md ops Q S l.length listed a w
  | [], S, listed, a, w, _, hB, _, h => by
    refine wpAnyH_done ?_ h _
    simpa [fB] using hB
  | (true, k) :: l, S, listed, a, w, hl, hB, hS, h => by
    have hk : k < ops.size := hl _ List.mem_cons_self
    have h0 : ops[k]? = some (ops.toList.getD k d) := by simp [hk]
    simp only [fB, Bool.and_eq_true] at hB
    obtain ⟨v, hy, h⟩ := h
    exact wpAnyH_take h0 hs hB.1.1 hB.1.2 (fun c a w => hQ c _ _ w) hy hS (wpAnyH_G hs hQ d l S _ _ w (fun p hp => hl p (List.mem_cons_of_mem _ hp)) hB.2 hS h)
  | (false, k) :: l, S, listed, a, w, hl, hB, hS, h => by
    have hk : k < ops.size := hl _ List.mem_cons_self
    have h0 : ops[k]? = some (ops.toList.getD k d) := by simp [hk]
    simp only [fB, Bool.and_eq_true, decide_eq_true_eq] at hB
    refine wpAnyH_all hB.1 (by simp) fun i hi => ?_
    obtain rfl : i = k := by simpa using hi
    refine wpOp_step h0 fun K' hK => ?_
    replace h : wpG P ops S Q ((false, ops.toList.getD i d) :: inOrder ops.toList d l) a w := h
    unfold wpG at h
    split at h
    · rename_i hw
      rw [if_pos hw]
      exact Oper.wp_mono (fun a w h => let ⟨S', h1, h2, h3⟩ := h; hK _ _ ⟨h1 _ h2, anyH_S h1 _ _ _ _ (wpAnyH_G hs hQ d l S' _ a w (fun p hp => hl p (List.mem_cons_of_mem _ hp)) hB.2 h2 h3)⟩) h
    · rename_i hw
      rw [if_neg hw]
      exact hK _ _ ⟨hS, wpAnyH_G hs hQ d l S _ _ w (fun p hp => hl p (List.mem_cons_of_mem _ hp)) hB.2 hS h⟩
/-- what is asked of the region's text -/
def gB (ops : Array Oper) (order : List (Bool × Nat)) : Bool :=
  plainOps ops && (Region.noSelect ops && decide (order.length = ops.size) && order.all (fun p => decide (p.2 < ops.size)) && fB .any ops order (Array.replicate ops.size false))
theorem wpAny_G {o : Oper} {l : List Oper} {a : Act} {w : World} (order : List (Bool × Nat)) (hB : gB (o :: l).toArray order = true) (hS : S w.drew) (h : wpG P (o :: l).toArray S (noEnd Q) (inOrder (o :: l) o order) a w.drew) :
    wpAny P .any (o :: l).toArray (noEnd Q) (o :: l).toArray.size (Array.replicate (o :: l).toArray.size false) a w.drew := by
  simp only [gB, Bool.and_eq_true, decide_eq_true_eq, List.all_eq_true] at hB
  obtain ⟨_, ⟨⟨hs, ht⟩, hk⟩, hB⟩ := hB
  have := wpAnyH_G (P := P) (Q := noEnd Q) (md := .any) hs (fun _ _ _ _ h => h) o order S (Array.replicate (o :: l).toArray.size false) a w.drew (fun p hp => hk p hp) hB hS h
  rw [ht] at this
  exact wpAny_of_held _ _ _ _ this
theorem noEnd_imp (e : Exit) (a : Act) (w : World) (h : noEnd Q e a w) : Q e a w := by
  cases e <;> first | exact h | exact (h : False).elim
theorem wp_region_G {id : Nat} {a : Act} {w : World} {o : Oper} {l : List Oper} (S : World → Prop) (order : List (Bool × Nat)) (hm : P.follows .mixedOrders = true) (hB : gB (o :: l).toArray order = true) (hS : S w.drew)
    (h : wpG P (o :: l).toArray S (noEnd Q) (inOrder (o :: l) o order) a w.drew) : (Code.region id (o :: l).toArray true).wp P Q a w :=
  Code.wp_mono noEnd_imp (wp_region_any hm (wpAny_G order hB hS h))
theorem wpIn_region_G {lp id : Nat} {a : Act} {w : World} {o : Oper} {l : List Oper} (S : World → Prop) (order : List (Bool × Nat)) (hm : P.follows .mixedOrders = true) (hB : gB (o :: l).toArray order = true) (hS : S w.drew)
    (h : wpG P (o :: l).toArray S (noEnd Q) (inOrder (o :: l) o order) a w.drew) : (Code.region id (o :: l).toArray true).wpIn (Fence.wide.inRound lp) 0 P Q a w := by
  have hp : plainOps (o :: l).toArray = true := by simp only [gB, Bool.and_eq_true] at hB; exact hB.1
  exact wpIn_region_any hm (anyIn_round hp _ _ _ _ (wpAny_G order hB hS h))
variable {a : Act} {w : World} {rest : List (Bool × Oper)} {o : Oper}
theorem wpG_end (h : Q .normal a w) : wpG P ops S (noEnd Q) [] a w := h
/-- what yields in whatever world -/
theorem wpG_pure (h : ∀ K : Act → Prop, (∀ a, wpG P ops S Q rest a w → K a) → if Region.wanted o (yielded ops a.tmps) then ∃ v, (∀ w, (execOp a.eval o).run P w = .ok (.value v) w) ∧ K (a.put o.dst v) else K (a.put o.dst undef)) :
    wpG P ops S Q ((true, o) :: rest) a w := by
  have := h (fun a => wpG P ops S Q rest a w) (fun _ h => h)
  by_cases hw : Region.wanted o (yielded ops a.tmps) = true
  · rw [if_pos hw] at this
    obtain ⟨v, h1, h2⟩ := this
    exact ⟨v, .inl ⟨hw, fun w _ => h1 w⟩, h2⟩
  · rw [if_neg hw] at this
    exact ⟨undef, .inr ⟨by simpa using hw, rfl⟩, this⟩
/-- what yields in every world of S -/
theorem wpG_val (v : Value) (hw : Region.wanted o (yielded ops a.tmps) = true) (hr : ∀ W, S W → (execOp a.eval o).run P W = .ok (.value v) W) (h : wpG P ops S Q rest (a.put o.dst v) w) : wpG P ops S Q ((true, o) :: rest) a w :=
  ⟨v, .inl ⟨hw, hr⟩, h⟩
/-- a call, a store; from it on the condition may be a narrower one -/
theorem wpG_oneS (h : ∀ K : Act → World → Prop, (∀ S' : World → Prop, (∀ X, S' X → S X) → ∀ a w, S' w → wpG P ops S' Q rest a w → K a w) → if Region.wanted o (yielded ops a.tmps) then o.wp P a w K Q else wpG P ops S Q rest (a.put o.dst undef) w) : wpG P ops S Q ((false, o) :: rest) a w := by
  have := h (fun a w => ∃ S' : World → Prop, (∀ X, S' X → S X) ∧ S' w ∧ wpG P ops S' Q rest a w) (fun S' h0 _ _ h1 h2 => ⟨S', h0, h1, h2⟩)
  unfold wpG
  exact this
theorem wpG_one (h : ∀ K : Act → World → Prop, (∀ a w, S w → wpG P ops S Q rest a w → K a w) → if Region.wanted o (yielded ops a.tmps) then o.wp P a w K Q else wpG P ops S Q rest (a.put o.dst undef) w) : wpG P ops S Q ((false, o) :: rest) a w :=
  wpG_oneS fun K hK => h K fun a w => hK S (fun _ h => h) a w
end
end Go.Proofs.Ytmbbmombhkaeoaa
