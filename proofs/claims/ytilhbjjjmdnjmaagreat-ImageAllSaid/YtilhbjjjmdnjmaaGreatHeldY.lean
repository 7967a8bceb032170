/-
  A region that draws its order, with an operation that waits for all loads: behind it the condition need not hold; what is behind it yields anywhere, or comes up alone. No program in sight.
-/
import Derived.Test.YtilhbjjjmdnjmaaGreatM13
namespace Go.Proofs.YtilhbjjjmdnjmaaGreat
open Go
section
variable {P : Program} {ops : Array Oper} {Q : Exit → Act → World → Prop} {md : Region.Mode} {S : World → Prop} {z : Nat}
/-- 'wpAnyH', but that behind operation z nothing is asked -/
def wpAnyY (P : Program) (md : Region.Mode) (ops : Array Oper) (Q : Exit → Act → World → Prop) (S : World → Prop) (z : Nat) : Nat → Array Bool → Act → World → Prop
  | 0, listed, a, w => Region.ready md ops listed = [] ∧ Q .normal a w
  | fuel + 1, listed, a, w =>
    (Region.ready md ops listed = [] → Q .normal a w) ∧
    ∀ i ∈ Region.ready md ops listed, wpOp P ops Q i (fun a' w' => if i = z then wpAny P md ops Q fuel (listed.setIfInBounds i true) a' w' else S w' ∧ wpAnyY P md ops Q S z fuel (listed.setIfInBounds i true) a' w') a w
theorem wpAny_of_Y : ∀ (fuel : Nat) (listed : Array Bool) (a : Act) (w : World), wpAnyY P md ops Q S z fuel listed a w → wpAny P md ops Q fuel listed a w
  | 0, _, _, _, h => h
  | fuel + 1, _, _, _, h => ⟨h.1, fun i hi => wpOp_mono (fun a' w' h' => by
      by_cases e : i = z
      · rw [if_pos e] at h'; exact h'
      · rw [if_neg e] at h'; exact wpAny_of_Y fuel _ a' w' h'.2) (h.2 i hi)⟩
theorem wpAnyY_S {S' : World → Prop} (hS : ∀ X, S' X → S X) : ∀ (n : Nat) (listed : Array Bool) (a : Act) (w : World), wpAnyY P md ops Q S' z n listed a w → wpAnyY P md ops Q S z n listed a w
  | 0, _, _, _, h => h
  | n + 1, _, _, _, h => ⟨h.1, fun i hi => wpOp_mono (fun a' w' h' => by
      by_cases e : i = z
      · rw [if_pos e] at h' ⊢; exact h'
      · rw [if_neg e] at h' ⊢; exact ⟨hS _ h'.1, wpAnyY_S hS n _ a' w' h'.2⟩) (h.2 i hi)⟩
def isExt (o : Oper) : Bool := match o.op with | .extract _ _ => true | _ => false
theorem ext_yields {o : Oper} {v : Value} {a : Act} {w : World} (he : isExt o = true) (hy : YieldsIf P ops S o v a) (hS : S w) : Yields P ops o v a := by
  rcases hy with ⟨hw, hv⟩ | h
  · refine .inl ⟨hw, fun w' => ?_⟩
    have h := hv w hS
    unfold isExt at he
    cases ho : o.op <;> simp only [ho] at he <;> try cases he
    rename_i t ix
    simp only [execOp, ho, Instr.extract] at h ⊢
    generalize a.eval t = y at *
    cases y <;> first
      | (simp [stuck] at h; done)
      | skip
    rename_i vs
    simp only at h ⊢
    cases hx : vs[ix]? with
    | none => rw [hx] at h; simp [stuck] at h
    | some u => rw [hx] at h; simpa using h
  · exact .inr h
theorem wpAnyY_first {i : Nat} {oi : Oper} {v : Value} (hi : ops[i]? = some oi) (hsel : ∀ (j : Nat) (o : Oper) cs b, ops[j]? = some o → o.op ≠ .select cs b)
    (hQ : ∀ c a w, Q (.panic c) (a.put oi.dst v) w → Q (.panic c) a w) (hz : ∀ a w, S w → YieldsIf P ops S oi v a → (∀ oz, ops[z]? = some oz → ∃ e ∈ oz.after, Region.binds md e = true ∧ e.on = i) ∨ Yields P ops oi v a) (hiz : i ≠ z) :
    ∀ (fuel : Nat) (listed : Array Bool) (a : Act) (w : World),
      (∀ j oj, ops[j]? = some oj → j ≠ i → listed.getD j true = false → (∀ e ∈ oj.after, Region.binds md e = true → e.on ≠ i) → oi.apart ops oj = true) →
      i ∈ Region.ready md ops listed → YieldsIf P ops S oi v a → S w →
      wpAnyY P md ops Q S z fuel (listed.setIfInBounds i true) (a.put oi.dst v) w → wpAnyY P md ops Q S z (fuel + 1) listed a w := by
  intro fuel
  induction fuel with
  | zero =>
    intro listed a w _ hr hy hS H
    refine ⟨fun h => (by rw [h] at hr; cases hr), fun j hj => ?_⟩
    by_cases hji : j = i
    · subst hji; exact hy.wpOp hi hS (by rw [if_neg hiz]; exact ⟨hS, H⟩)
    · have := ready_mono hj hji
      rw [H.1] at this
      cases this
  | succ fuel ih =>
    intro listed a w hfree hr hy hS H
    refine ⟨fun h => (by rw [h] at hr; cases hr), fun j hj => ?_⟩
    by_cases hji : j = i
    · subst hji; exact hy.wpOp hi hS (by rw [if_neg hiz]; exact ⟨hS, H⟩)
    · have h1 := H.2 j (ready_mono hj hji)
      obtain ⟨hjun, oj, hoj, hall⟩ := mem_ready.1 hj
      have hnot : ∀ e ∈ oj.after, Region.binds md e = true → e.on ≠ i := fun e he hb heq => by
        have h1 := hall e he hb
        have h0 := (mem_ready.1 hr).1
        rw [heq] at h1
        rcases Nat.lt_or_ge i listed.size with h' | h'
        · simp [h'] at h0 h1; rw [h0] at h1; cases h1
        · simp [Array.getElem?_eq_none h'] at h1
      have hfree' : ∀ k ok, ops[k]? = some ok → k ≠ i → (listed.setIfInBounds j true).getD k true = false →
          (∀ e ∈ ok.after, Region.binds md e = true → e.on ≠ i) → oi.apart ops ok = true := fun k ok hk hki hun hno => by
        refine hfree k ok hk hki ?_ hno
        by_cases hjk : j = k
        · subst hjk; exact hjun
        · rw [getD_set_ne true hjk] at hun; exact hun
      by_cases hjz : j = z
      case pos =>
        rcases hz a w hS hy with hz | hy'
        · subst hjz
          obtain ⟨e, he, hb, ho⟩ := hz oj hoj
          exact absurd ho (hnot e he hb)
        · replace h1 := wpOp_mono (K' := fun a' w' => wpAny P md ops Q fuel ((listed.setIfInBounds i true).setIfInBounds j true) a' w') (fun a' w' h' => by rw [if_pos hjz] at h'; exact h') h1
          have h2 := wpOp_put hoj (hfree j oj hoj hji hjun hnot) (fun cs b => hsel i oi cs b hi) (fun cs b => hsel j oj cs b hoj) hQ hy' h1
          refine wpOp_mono (fun a' w' h3 => ?_) h2
          rw [if_pos hjz]
          refine wpAny_first hi hsel hQ fuel (listed.setIfInBounds j true) a' w' hfree' (ready_mono hr (Ne.symm hji)) h3.1 ?_
          rw [Array.setIfInBounds_comm _ _ hji]
          exact h3.2
      replace h1 := wpOp_mono (K' := fun a' w' => S w' ∧ wpAnyY P md ops Q S z fuel ((listed.setIfInBounds i true).setIfInBounds j true) a' w') (fun a' w' h' => by rw [if_neg hjz] at h'; exact h') h1
      have h2 := wpOp_putIf hoj (hfree j oj hoj hji hjun hnot) (fun cs b => hsel i oi cs b hi) (fun cs b => hsel j oj cs b hoj) hQ hy h1
      refine wpOp_mono (fun a' w' h3 => by
        rw [if_neg hjz]
        refine ⟨h3.2.1, ih (listed.setIfInBounds j true) a' w' hfree' (ready_mono hr (Ne.symm hji)) h3.1 h3.2.1 ?_⟩
        rw [Array.setIfInBounds_comm _ _ hji]
        exact h3.2.2) h2
theorem wpAnyY_take {i : Nat} {oi : Oper} {v : Value} {fuel : Nat} {listed : Array Bool} {a : Act} {w : World} (hi : ops[i]? = some oi)
    (hs : Region.noSelect ops = true) (hf : Region.free md ops listed i = true) (hr : (Region.ready md ops listed).contains i = true) (hw : (waits md ops z i || (i != z && isExt oi)) = true)
    (hQ : ∀ c a w, Q (.panic c) (a.put oi.dst v) w → Q (.panic c) a w) (hy : YieldsIf P ops S oi v a) (hS : S w)
    (h : wpAnyY P md ops Q S z fuel (listed.setIfInBounds i true) (a.put oi.dst v) w) : wpAnyY P md ops Q S z (fuel + 1) listed a w := by
  have hne : i ≠ z := by
    unfold waits at hw
    simp only [Bool.or_eq_true, Bool.and_eq_true, bne_iff_ne, ne_eq] at hw
    rcases hw with h | h
    · exact h.1
    · exact h.1
  refine wpAnyY_first hi (Region.noSelect_spec hs) hQ (fun a' w' hS' hy' => ?_) hne fuel listed a w (Region.free_spec hi hf) (by simpa using hr) hy hS h
  rcases Bool.or_eq_true _ _ |>.mp hw with hw | hw
  · refine .inl fun oz hz => ?_
    unfold waits at hw
    simp only [Bool.and_eq_true, bne_iff_ne, ne_eq] at hw
    have h2 := hw.2
    rw [hz] at h2
    simp only [Array.any_eq_true] at h2
    obtain ⟨k, hk, h2⟩ := h2
    simp only [Bool.and_eq_true, beq_iff_eq] at h2
    exact ⟨_, Array.getElem_mem hk, h2.1, h2.2⟩
  · simp only [Bool.and_eq_true] at hw
    exact .inr (ext_yields hw.2 hy' hS')
/-- the operation z, and what is behind it -/
def lastY (P : Program) (ops : Array Oper) (o : Oper) (rest : List (Bool × Oper)) (Q : Exit → Act → World → Prop) : Exit → Act → World → Prop
  | .normal, a, w => if Region.wanted o (yielded ops a.tmps) then o.wp P a w (fun a' w' => wpG P ops (fun _ => True) Q rest a' w') Q else wpG P ops (fun _ => True) Q rest (a.put o.dst undef) w
  | e, a, w => Q e a w
def yB (md : Region.Mode) (ops : Array Oper) (z : Nat) (l2 : List (Bool × Nat)) : List (Bool × Nat) → Array Bool → Bool
  | [], listed => decide (Region.ready md ops listed = [z]) && fB md ops l2 (listed.setIfInBounds z true)
  | (true, k) :: rest, listed => Region.free md ops listed k && (Region.ready md ops listed).contains k && (waits md ops z k || (k != z && (ops[k]?.map isExt).getD false)) && yB md ops z l2 rest (listed.setIfInBounds k true)
  | (false, k) :: rest, listed => decide (Region.ready md ops listed = [k]) && decide (k ≠ z) && yB md ops z l2 rest (listed.setIfInBounds k true)
theorem wpAnyY_G (hs : Region.noSelect ops = true) (hQ : ∀ c a a' w, Q (.panic c) a w → Q (.panic c) a' w) (d : Oper) (hz : z < ops.size) (l2 : List (Bool × Nat)) (hl2 : ∀ p ∈ l2, p.2 < ops.size) : ∀ (l : List (Bool × Nat)) (S : World → Prop) (listed : Array Bool) (a : Act) (w : World), (∀ p ∈ l, p.2 < ops.size) →
    yB md ops z l2 l listed = true → S w → wpG P ops S (lastY P ops (ops.toList.getD z d) (inOrder ops.toList d l2) Q) (inOrder ops.toList d l) a w → wpAnyY P md ops Q S z (l.length + (l2.length + 1)) listed a w
  | [], S, listed, a, w, _, hB, _, h => by
    simp only [yB, Bool.and_eq_true, decide_eq_true_eq] at hB
    have h0 : ops[z]? = some (ops.toList.getD z d) := by simp [hz]
    have e : ([] : List (Bool × Nat)).length + (l2.length + 1) = l2.length + 1 := by simp
    rw [e]
    refine ⟨fun hr => (by rw [hB.1] at hr; cases hr), fun i hi => ?_⟩
    rw [hB.1] at hi
    obtain rfl := List.mem_singleton.1 hi
    have hgo : ∀ a w, wpG P ops (fun _ => True) Q (inOrder ops.toList d l2) a w → wpAny P md ops Q l2.length (listed.setIfInBounds i true) a w := fun a w h =>
      wpAny_of_held _ _ _ _ (wpAnyH_G hs hQ d l2 (fun _ => True) _ a w hl2 hB.2 trivial h)
    refine wpOp_step h0 fun K' hK => ?_
    replace h : (if Region.wanted (ops.toList.getD i d) (yielded ops a.tmps) then (ops.toList.getD i d).wp P a w (fun a' w' => wpG P ops (fun _ => True) Q (inOrder ops.toList d l2) a' w') Q else wpG P ops (fun _ => True) Q (inOrder ops.toList d l2) (a.put (ops.toList.getD i d).dst undef) w) := h
    split at h
    · rename_i hw
      rw [if_pos hw]
      exact Oper.wp_mono (fun a w h => hK _ _ (by rw [if_pos rfl]; exact hgo _ _ h)) h
    · rename_i hw
      rw [if_neg hw]
      exact hK _ _ (by rw [if_pos rfl]; exact hgo _ _ h)
  | (true, k) :: l, S, listed, a, w, hl, hB, hS, h => by
    have hk : k < ops.size := hl _ List.mem_cons_self
    have h0 : ops[k]? = some (ops.toList.getD k d) := by simp [hk]
    simp only [yB, Bool.and_eq_true] at hB
    obtain ⟨v, hy, h⟩ := h
    have e : ((true, k) :: l).length + (l2.length + 1) = (l.length + (l2.length + 1)) + 1 := by simp; omega
    rw [e]
    exact wpAnyY_take h0 hs hB.1.1.1 hB.1.1.2 (by have h2 := hB.1.2; rw [h0] at h2; exact h2) (fun c a w => hQ c _ _ w) hy hS (wpAnyY_G hs hQ d hz l2 hl2 l S _ _ w (fun p hp => hl p (List.mem_cons_of_mem _ hp)) hB.2 hS h)
  | (false, k) :: l, S, listed, a, w, hl, hB, hS, h => by
    have hk : k < ops.size := hl _ List.mem_cons_self
    have h0 : ops[k]? = some (ops.toList.getD k d) := by simp [hk]
    simp only [yB, Bool.and_eq_true, decide_eq_true_eq] at hB
    have e : ((false, k) :: l).length + (l2.length + 1) = (l.length + (l2.length + 1)) + 1 := by simp; omega
    rw [e]
    refine ⟨fun hr => (by rw [hB.1.1] at hr; cases hr), fun i hi => ?_⟩
    rw [hB.1.1] at hi
    obtain rfl := List.mem_singleton.1 hi
    refine wpOp_step h0 fun K' hK => ?_
    replace h : wpG P ops S (lastY P ops (ops.toList.getD z d) (inOrder ops.toList d l2) Q) ((false, ops.toList.getD i d) :: inOrder ops.toList d l) a w := h
    unfold wpG at h
    split at h
    · rename_i hw
      rw [if_pos hw]
      have h' := wp_congrQ (Q1 := lastY P ops (ops.toList.getD z d) (inOrder ops.toList d l2) Q) (Q2 := Q) (fun c a w h => h) (fun a w h => h) h
      exact Oper.wp_mono (fun a w h => let ⟨S', h1, h2, h3⟩ := h; hK _ _ (by rw [if_neg hB.1.2]; exact ⟨h1 _ h2, wpAnyY_S h1 _ _ _ _ (wpAnyY_G hs hQ d hz l2 hl2 l S' _ a w (fun p hp => hl p (List.mem_cons_of_mem _ hp)) hB.2 h2 h3)⟩)) h'
    · rename_i hw
      rw [if_neg hw]
      exact hK _ _ (by rw [if_neg hB.1.2]; exact ⟨hS, wpAnyY_G hs hQ d hz l2 hl2 l S _ _ w (fun p hp => hl p (List.mem_cons_of_mem _ hp)) hB.2 hS h⟩)
def gyB (ops : Array Oper) (z : Nat) (order l2 : List (Bool × Nat)) : Bool :=
  plainOps ops && (Region.noSelect ops && decide (order.length + (l2.length + 1) = ops.size) && decide (z < ops.size) && order.all (fun p => decide (p.2 < ops.size)) && l2.all (fun p => decide (p.2 < ops.size)) && yB .any ops z l2 order (Array.replicate ops.size false))
theorem wpAny_Y {o : Oper} {l : List Oper} {a : Act} {w : World} (order l2 : List (Bool × Nat)) (hB : gyB (o :: l).toArray z order l2 = true) (hS : S w.drew) (h : wpG P (o :: l).toArray S (lastY P (o :: l).toArray ((o :: l).getD z o) (inOrder (o :: l) o l2) (noEnd Q)) (inOrder (o :: l) o order) a w.drew) :
    wpAny P .any (o :: l).toArray (noEnd Q) (o :: l).toArray.size (Array.replicate (o :: l).toArray.size false) a w.drew := by
  simp only [gyB, Bool.and_eq_true, decide_eq_true_eq, List.all_eq_true] at hB
  obtain ⟨_, ⟨⟨⟨⟨hs, ht⟩, hz⟩, hk⟩, hk2⟩, hB⟩ := hB
  have := wpAnyY_G (P := P) (Q := noEnd Q) (md := .any) hs (fun _ _ _ _ h => h) o hz l2 (fun p hp => hk2 p hp) order S (Array.replicate (o :: l).toArray.size false) a w.drew (fun p hp => hk p hp) hB hS h
  rw [ht] at this
  exact wpAny_of_Y _ _ _ _ this
theorem wp_region_Y {id : Nat} {a : Act} {w : World} {o : Oper} {l : List Oper} (z : Nat) (S : World → Prop) (order l2 : List (Bool × Nat)) (hm : P.follows .mixedOrders = true) (hB : gyB (o :: l).toArray z order l2 = true) (hS : S w.drew)
    (h : wpG P (o :: l).toArray S (lastY P (o :: l).toArray ((o :: l).getD z o) (inOrder (o :: l) o l2) (noEnd Q)) (inOrder (o :: l) o order) a w.drew) : (Code.region id (o :: l).toArray true).wp P Q a w :=
  Code.wp_mono noEnd_imp (wp_region_any hm (wpAny_Y order l2 hB hS h))
theorem wpG_cut {a : Act} {w : World} {o : Oper} {rest : List (Bool × Oper)} (h : ∀ K : Act → World → Prop, (∀ a w, wpG P ops (fun _ => True) (noEnd Q) rest a w → K a w) → if Region.wanted o (yielded ops a.tmps) then o.wp P a w K (noEnd Q) else K (a.put o.dst undef) w) : wpG P ops S (lastY P ops o rest (noEnd Q)) [] a w :=
  h (fun a w => wpG P ops (fun _ => True) (noEnd Q) rest a w) (fun _ _ h => h)
end
end Go.Proofs.YtilhbjjjmdnjmaaGreat
