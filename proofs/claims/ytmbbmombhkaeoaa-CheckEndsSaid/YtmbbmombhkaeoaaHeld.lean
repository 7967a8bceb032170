/-
  A region that draws its order, in which what is no call yields alike in every world that has grown from the first one, and the calls stand in one chain: one walk, in an order that is handed in. No program in sight.
-/
import Derived.Test.YtmbbmombhkaeoaaDrawn
import Derived.OrdersHeld
namespace Go.Proofs.Ytmbbmombhkaeoaa
open Go
section
variable {P : Program} {ops : Array Oper} {Q : Exit → Act → World → Prop} {w0 : World}
/-- 'true': it yields in every world that has grown from w0; 'false': it comes up alone, and leaves such a world -/
def wpF (P : Program) (ops : Array Oper) (w0 : World) (Q : Exit → Act → World → Prop) : List (Bool × Oper) → Act → World → Prop
  | [], a, w => Q .normal a w
  | (true, o) :: rest, a, w => ∃ v, YieldsIf P ops (Fr [] w0) o v a ∧ wpF P ops w0 Q rest (a.put o.dst v) w
  | (false, o) :: rest, a, w => if Region.wanted o (yielded ops a.tmps) then o.wp P a w (fun a' w' => Fr [] w0 w' ∧ wpF P ops w0 Q rest a' w') Q else wpF P ops w0 Q rest (a.put o.dst undef) w
def fB (md : Region.Mode) (ops : Array Oper) : List (Bool × Nat) → Array Bool → Bool
  | [], listed => (Region.ready md ops listed).isEmpty
  | (true, k) :: rest, listed => Region.free md ops listed k && (Region.ready md ops listed).contains k && fB md ops rest (listed.setIfInBounds k true)
  | (false, k) :: rest, listed => decide (Region.ready md ops listed = [k]) && fB md ops rest (listed.setIfInBounds k true)
/-- the operations in the order that is handed in -/
def inOrder (l : List Oper) (d : Oper) (order : List (Bool × Nat)) : List (Bool × Oper) := order.map fun p => (p.1, l.getD p.2 d)
theorem wpAnyH_F {md : Region.Mode} (hs : Region.noSelect ops = true) (hQ : ∀ c a a' w, Q (.panic c) a w → Q (.panic c) a' w) (d : Oper) : ∀ (l : List (Bool × Nat)) (listed : Array Bool) (a : Act) (w : World), (∀ p ∈ l, p.2 < ops.size) →
    fB md ops l listed = true → Fr [] w0 w → wpF P ops w0 Q (inOrder ops.toList d l) a w → wpAnyH P md ops Q (Fr [] w0) l.length listed a w
  | [], listed, a, w, _, hB, _, h => by
    refine wpAnyH_done ?_ h _
    simpa [fB] using hB
  | (true, k) :: l, listed, a, w, hl, hB, hS, h => by
    have hk : k < ops.size := hl _ List.mem_cons_self
    have h0 : ops[k]? = some (ops.toList.getD k d) := by simp [hk]
    simp only [fB, Bool.and_eq_true] at hB
    obtain ⟨v, hy, h⟩ := h
    exact wpAnyH_take h0 hs hB.1.1 hB.1.2 (fun c a w => hQ c _ _ w) hy hS (wpAnyH_F hs hQ d l _ _ w (fun p hp => hl p (List.mem_cons_of_mem _ hp)) hB.2 hS h)
  | (false, k) :: l, listed, a, w, hl, hB, hS, h => by
    have hk : k < ops.size := hl _ List.mem_cons_self
    have h0 : ops[k]? = some (ops.toList.getD k d) := by simp [hk]
    simp only [fB, Bool.and_eq_true, decide_eq_true_eq] at hB
    refine wpAnyH_all hB.1 (by simp) fun i hi => ?_
    obtain rfl : i = k := by simpa using hi
    refine wpOp_step h0 fun K' hK => ?_
    replace h : wpF P ops w0 Q ((false, ops.toList.getD i d) :: inOrder ops.toList d l) a w := h
    unfold wpF at h
    split at h
    · rename_i hw
      rw [if_pos hw]
      exact Oper.wp_mono (fun a w h => hK _ _ ⟨h.1, wpAnyH_F hs hQ d l _ a w (fun p hp => hl p (List.mem_cons_of_mem _ hp)) hB.2 h.1 h.2⟩) h
    · rename_i hw
      rw [if_neg hw]
      exact hK _ _ ⟨hS, wpAnyH_F hs hQ d l _ _ w (fun p hp => hl p (List.mem_cons_of_mem _ hp)) hB.2 hS h⟩
theorem wp_region_F {id : Nat} {a : Act} {w : World} {o : Oper} {l : List Oper} (order : List (Bool × Nat)) (hm : P.follows .mixedOrders = true)
    (hB : (Region.noSelect (o :: l).toArray && decide (order.length = (o :: l).length) && order.all (fun p => decide (p.2 < (o :: l).length)) && fB .any (o :: l).toArray order (Array.replicate (o :: l).length false)) = true)
    (h : wpF P (o :: l).toArray w.drew (noPan Q) (inOrder (o :: l) o order) a w.drew) : (Code.region id (o :: l).toArray true).wp P Q a w := by
  refine Code.wp_mono noPan_imp ?_
  simp only [Bool.and_eq_true, decide_eq_true_eq, List.all_eq_true] at hB
  obtain ⟨⟨⟨hs, ht⟩, hk⟩, hB⟩ := hB
  refine wp_region_held (S := Fr [] w.drew) hm ?_
  have := wpAnyH_F (P := P) (Q := noPan Q) (md := .any) (w0 := w.drew) hs (fun _ _ _ _ h => h) o order (Array.replicate (o :: l).length false) a w.drew (fun p hp => by simpa using hk p hp) hB (Fr.refl _ _) h
  have hlen : order.length = (o :: l).toArray.size := by simp [ht]
  rw [hlen] at this
  exact this
variable {a : Act} {w : World} {rest : List (Bool × Oper)} {o : Oper}
theorem wpF_end (h : Q .normal a w) : wpF P ops w0 (noPan Q) [] a w := h
/-- what yields in whatever world -/
theorem wpF_pure (h : ∀ K : Act → Prop, (∀ a, wpF P ops w0 Q rest a w → K a) → if Region.wanted o (yielded ops a.tmps) then ∃ v, (∀ w, (execOp a.eval o).run P w = .ok (.value v) w) ∧ K (a.put o.dst v) else K (a.put o.dst undef)) :
    wpF P ops w0 Q ((true, o) :: rest) a w := by
  have := h (fun a => wpF P ops w0 Q rest a w) (fun _ h => h)
  by_cases hw : Region.wanted o (yielded ops a.tmps) = true
  · rw [if_pos hw] at this
    obtain ⟨v, h1, h2⟩ := this
    exact ⟨v, .inl ⟨hw, fun w _ => h1 w⟩, h2⟩
  · rw [if_neg hw] at this
    exact ⟨undef, .inr ⟨by simpa using hw, rfl⟩, this⟩
/-- what yields in every world that has grown from the first one -/
theorem wpF_val (v : Value) (hw : Region.wanted o (yielded ops a.tmps) = true) (hr : ∀ W, Fr [] w0 W → (execOp a.eval o).run P W = .ok (.value v) W) (h : wpF P ops w0 Q rest (a.put o.dst v) w) : wpF P ops w0 Q ((true, o) :: rest) a w :=
  ⟨v, .inl ⟨hw, hr⟩, h⟩
theorem wpF_off (hw : Region.wanted o (yielded ops a.tmps) = false) (h : wpF P ops w0 Q rest (a.put o.dst undef) w) : wpF P ops w0 Q ((true, o) :: rest) a w :=
  ⟨undef, .inr ⟨hw, rfl⟩, h⟩
/-- a call -/
theorem wpF_one (h : ∀ K : Act → World → Prop, (∀ a w, Fr [] w0 w → wpF P ops w0 Q rest a w → K a w) → if Region.wanted o (yielded ops a.tmps) then o.wp P a w K Q else wpF P ops w0 Q rest (a.put o.dst undef) w) : wpF P ops w0 Q ((false, o) :: rest) a w := by
  have := h (fun a w => Fr [] w0 w ∧ wpF P ops w0 Q rest a w) (fun _ _ h1 h2 => ⟨h1, h2⟩)
  unfold wpF
  exact this
end
end Go.Proofs.Ytmbbmombhkaeoaa
