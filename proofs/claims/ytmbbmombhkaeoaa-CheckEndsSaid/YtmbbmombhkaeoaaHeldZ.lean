/-
  A region that draws its order, whose last operation waits for all that was taken first: behind it the condition need not hold. No program in sight.
-/
import Derived.Test.YtmbbmombhkaeoaaHeldL
namespace Go.Proofs.Ytmbbmombhkaeoaa
open Go
section
variable {P : Program} {ops : Array Oper} {Q : Exit → Act → World → Prop} {md : Region.Mode} {S : World → Prop} {z : Nat}
/-- 'wpAnyH', but that behind operation z nothing is asked -/
def wpAnyZ (P : Program) (md : Region.Mode) (ops : Array Oper) (Q : Exit → Act → World → Prop) (S : World → Prop) (z : Nat) : Nat → Array Bool → Act → World → Prop
  | 0, listed, a, w => Region.ready md ops listed = [] ∧ Q .normal a w
  | fuel + 1, listed, a, w =>
    (Region.ready md ops listed = [] → Q .normal a w) ∧
    ∀ i ∈ Region.ready md ops listed, wpOp P ops Q i (fun a' w' => (i ≠ z → S w') ∧ wpAnyZ P md ops Q S z fuel (listed.setIfInBounds i true) a' w') a w
theorem wpAny_of_Z : ∀ (fuel : Nat) (listed : Array Bool) (a : Act) (w : World), wpAnyZ P md ops Q S z fuel listed a w → wpAny P md ops Q fuel listed a w
  | 0, _, _, _, h => h
  | fuel + 1, _, _, _, h => ⟨h.1, fun i hi => wpOp_mono (fun a' w' h' => wpAny_of_Z fuel _ a' w' h'.2) (h.2 i hi)⟩
theorem wpAnyZ_S {S' : World → Prop} (hS : ∀ X, S' X → S X) : ∀ (n : Nat) (listed : Array Bool) (a : Act) (w : World), wpAnyZ P md ops Q S' z n listed a w → wpAnyZ P md ops Q S z n listed a w
  | 0, _, _, _, h => h
  | n + 1, _, _, _, h => ⟨h.1, fun i hi => wpOp_mono (fun a' w' h' => ⟨fun hz => hS _ (h'.1 hz), wpAnyZ_S hS n _ a' w' h'.2⟩) (h.2 i hi)⟩
theorem wpAnyZ_first {i : Nat} {oi : Oper} {v : Value} (hi : ops[i]? = some oi) (hsel : ∀ (j : Nat) (o : Oper) cs b, ops[j]? = some o → o.op ≠ .select cs b)
    (hQ : ∀ c a w, Q (.panic c) (a.put oi.dst v) w → Q (.panic c) a w) (hz : ∀ oz, ops[z]? = some oz → ∃ e ∈ oz.after, Region.binds md e = true ∧ e.on = i) (hiz : i ≠ z) :
    ∀ (fuel : Nat) (listed : Array Bool) (a : Act) (w : World),
      (∀ j oj, ops[j]? = some oj → j ≠ i → listed.getD j true = false → (∀ e ∈ oj.after, Region.binds md e = true → e.on ≠ i) → oi.apart ops oj = true) →
      i ∈ Region.ready md ops listed → YieldsIf P ops S oi v a → S w →
      wpAnyZ P md ops Q S z fuel (listed.setIfInBounds i true) (a.put oi.dst v) w → wpAnyZ P md ops Q S z (fuel + 1) listed a w := by
  intro fuel
  induction fuel with
  | zero =>
    intro listed a w _ hr hy hS H
    refine ⟨fun h => (by rw [h] at hr; cases hr), fun j hj => ?_⟩
    by_cases hji : j = i
    · subst hji; exact hy.wpOp hi hS ⟨fun _ => hS, H⟩
    · have := ready_mono hj hji
      rw [H.1] at this
      cases this
  | succ fuel ih =>
    intro listed a w hfree hr hy hS H
    refine ⟨fun h => (by rw [h] at hr; cases hr), fun j hj => ?_⟩
    by_cases hji : j = i
    · subst hji; exact hy.wpOp hi hS ⟨fun _ => hS, H⟩
    · have h1 := H.2 j (ready_mono hj hji)
      obtain ⟨hjun, oj, hoj, hall⟩ := mem_ready.1 hj
      have hnot : ∀ e ∈ oj.after, Region.binds md e = true → e.on ≠ i := fun e he hb heq => by
        have h1 := hall e he hb
        have h0 := (mem_ready.1 hr).1
        rw [heq] at h1
        rcases Nat.lt_or_ge i listed.size with h' | h'
        · simp [h'] at h0 h1; rw [h0] at h1; cases h1
        · simp [Array.getElem?_eq_none h'] at h1
      have hjz : j ≠ z := fun e => by
        subst e
        obtain ⟨e, he, hb, ho⟩ := hz oj hoj
        exact hnot e he hb ho
      have h2 := wpOp_putIf hoj (hfree j oj hoj hji hjun hnot) (fun cs b => hsel i oi cs b hi) (fun cs b => hsel j oj cs b hoj) hQ hy h1
      have hfree' : ∀ k ok, ops[k]? = some ok → k ≠ i → (listed.setIfInBounds j true).getD k true = false →
          (∀ e ∈ ok.after, Region.binds md e = true → e.on ≠ i) → oi.apart ops ok = true := fun k ok hk hki hun hno => by
        refine hfree k ok hk hki ?_ hno
        by_cases hjk : j = k
        · subst hjk; exact hjun
        · rw [getD_set_ne true hjk] at hun; exact hun
      refine wpOp_mono (fun a' w' h3 => ⟨fun _ => h3.2.1 hjz, ih (listed.setIfInBounds j true) a' w' hfree' (ready_mono hr (Ne.symm hji)) h3.1 (h3.2.1 hjz) ?_⟩) h2
      rw [Array.setIfInBounds_comm _ _ hji]
      exact h3.2.2
/-- z waits for i -/
def waits (md : Region.Mode) (ops : Array Oper) (z i : Nat) : Bool := i != z && match ops[z]? with | some oz => oz.after.any (fun e => Region.binds md e && e.on == i) | none => false
theorem wpAnyZ_take {i : Nat} {oi : Oper} {v : Value} {fuel : Nat} {listed : Array Bool} {a : Act} {w : World} (hi : ops[i]? = some oi)
    (hs : Region.noSelect ops = true) (hf : Region.free md ops listed i = true) (hr : (Region.ready md ops listed).contains i = true) (hw : waits md ops z i = true)
    (hQ : ∀ c a w, Q (.panic c) (a.put oi.dst v) w → Q (.panic c) a w) (hy : YieldsIf P ops S oi v a) (hS : S w)
    (h : wpAnyZ P md ops Q S z fuel (listed.setIfInBounds i true) (a.put oi.dst v) w) : wpAnyZ P md ops Q S z (fuel + 1) listed a w := by
  unfold waits at hw
  simp only [Bool.and_eq_true, bne_iff_ne, ne_eq] at hw
  refine wpAnyZ_first hi (Region.noSelect_spec hs) hQ (fun oz hz => ?_) hw.1 fuel listed a w (Region.free_spec hi hf) (by simpa using hr) hy hS h
  have h2 := hw.2
  rw [hz] at h2
  simp only [Array.any_eq_true] at h2
  obtain ⟨k, hk, h2⟩ := h2
  simp only [Bool.and_eq_true, beq_iff_eq] at h2
  exact ⟨_, Array.getElem_mem hk, h2.1, h2.2⟩
/-- the last operation, behind all the others -/
def lastQ (P : Program) (ops : Array Oper) (o : Oper) (Q : Exit → Act → World → Prop) : Exit → Act → World → Prop
  | .normal, a, w => if Region.wanted o (yielded ops a.tmps) then o.wp P a w (fun a' w' => Q .normal a' w') Q else Q .normal (a.put o.dst undef) w
  | e, a, w => Q e a w
theorem wp_congrQ {o : Oper} {a : Act} {w : World} {K : Act → World → Prop} {Q1 Q2 : Exit → Act → World → Prop} (h1 : ∀ c a w, Q1 (.panic c) a w → Q2 (.panic c) a w) (h2 : ∀ a w, Q1 .outgrown a w → Q2 .outgrown a w) (h : o.wp P a w K Q1) : o.wp P a w K Q2 := by
  unfold Oper.wp at *
  generalize (execOp a.eval o).run P w = r at *
  have hl : LetsOut Q1 → LetsOut Q2 := fun ⟨a, w, h⟩ => ⟨a, w, h2 a w h⟩
  cases r with
  | ok n w' =>
    cases n <;> simp only [Oper.upon] at h ⊢ <;>
      first
        | exact h
        | exact Calls.mono h (fun e w'' he => by cases e <;> first | exact he | exact h1 _ _ _ he | exact hl he)
  | halt x w' => cases x <;> simp only [Oper.upon] at h ⊢ <;> first | exact h | exact h1 _ _ _ h
def zB (md : Region.Mode) (ops : Array Oper) (z : Nat) : List (Bool × Nat) → Array Bool → Bool
  | [], listed => decide (Region.ready md ops listed = [z]) && (Region.ready md ops (listed.setIfInBounds z true)).isEmpty
  | (true, k) :: rest, listed => Region.free md ops listed k && (Region.ready md ops listed).contains k && waits md ops z k && zB md ops z rest (listed.setIfInBounds k true)
  | (false, k) :: rest, listed => decide (Region.ready md ops listed = [k]) && zB md ops z rest (listed.setIfInBounds k true)
theorem wpAnyZ_G (hs : Region.noSelect ops = true) (hQ : ∀ c a a' w, Q (.panic c) a w → Q (.panic c) a' w) (d : Oper) (hz : z < ops.size) : ∀ (l : List (Bool × Nat)) (S : World → Prop) (listed : Array Bool) (a : Act) (w : World), (∀ p ∈ l, p.2 < ops.size) →
    zB md ops z l listed = true → S w → wpG P ops S (lastQ P ops (ops.toList.getD z d) Q) (inOrder ops.toList d l) a w → wpAnyZ P md ops Q S z (l.length + 1) listed a w
  | [], S, listed, a, w, _, hB, _, h => by
    simp only [zB, Bool.and_eq_true, decide_eq_true_eq, List.isEmpty_iff] at hB
    have h0 : ops[z]? = some (ops.toList.getD z d) := by simp [hz]
    refine ⟨fun hr => (by rw [hB.1] at hr; cases hr), fun i hi => ?_⟩
    rw [hB.1] at hi
    obtain rfl := List.mem_singleton.1 hi
    refine wpOp_step h0 fun K' hK => ?_
    replace h : (if Region.wanted (ops.toList.getD i d) (yielded ops a.tmps) then (ops.toList.getD i d).wp P a w (fun a' w' => Q .normal a' w') Q else Q .normal (a.put (ops.toList.getD i d).dst undef) w) := h
    split at h
    · rename_i hw
      rw [if_pos hw]
      exact Oper.wp_mono (fun a w h => hK _ _ ⟨fun hne => absurd rfl hne, hB.2, h⟩) h
    · rename_i hw
      rw [if_neg hw]
      exact hK _ _ ⟨fun hne => absurd rfl hne, hB.2, h⟩
  | (true, k) :: l, S, listed, a, w, hl, hB, hS, h => by
    have hk : k < ops.size := hl _ List.mem_cons_self
    have h0 : ops[k]? = some (ops.toList.getD k d) := by simp [hk]
    simp only [zB, Bool.and_eq_true] at hB
    obtain ⟨v, hy, h⟩ := h
    exact wpAnyZ_take h0 hs hB.1.1.1 hB.1.1.2 hB.1.2 (fun c a w => hQ c _ _ w) hy hS (wpAnyZ_G hs hQ d hz l S _ _ w (fun p hp => hl p (List.mem_cons_of_mem _ hp)) hB.2 hS h)
  | (false, k) :: l, S, listed, a, w, hl, hB, hS, h => by
    have hk : k < ops.size := hl _ List.mem_cons_self
    have h0 : ops[k]? = some (ops.toList.getD k d) := by simp [hk]
    simp only [zB, Bool.and_eq_true, decide_eq_true_eq] at hB
    refine ⟨fun hr => (by rw [hB.1] at hr; cases hr), fun i hi => ?_⟩
    rw [hB.1] at hi
    obtain rfl := List.mem_singleton.1 hi
    refine wpOp_step h0 fun K' hK => ?_
    replace h : wpG P ops S (lastQ P ops (ops.toList.getD z d) Q) ((false, ops.toList.getD i d) :: inOrder ops.toList d l) a w := h
    unfold wpG at h
    split at h
    · rename_i hw
      rw [if_pos hw]
      have h' := wp_congrQ (Q1 := lastQ P ops (ops.toList.getD z d) Q) (Q2 := Q) (fun c a w h => h) (fun a w h => h) h
      exact Oper.wp_mono (fun a w h => let ⟨S', h1, h2, h3⟩ := h; hK _ _ ⟨fun _ => h1 _ h2, wpAnyZ_S h1 _ _ _ _ (wpAnyZ_G hs hQ d hz l S' _ a w (fun p hp => hl p (List.mem_cons_of_mem _ hp)) hB.2 h2 h3)⟩) h'
    · rename_i hw
      rw [if_neg hw]
      exact hK _ _ ⟨fun _ => hS, wpAnyZ_G hs hQ d hz l S _ _ w (fun p hp => hl p (List.mem_cons_of_mem _ hp)) hB.2 hS h⟩
def gzB (ops : Array Oper) (z : Nat) (order : List (Bool × Nat)) : Bool :=
  plainOps ops && (Region.noSelect ops && decide (order.length + 1 = ops.size) && decide (z < ops.size) && order.all (fun p => decide (p.2 < ops.size)) && zB .any ops z order (Array.replicate ops.size false))
theorem wpAny_Z {o : Oper} {l : List Oper} {a : Act} {w : World} (order : List (Bool × Nat)) (hB : gzB (o :: l).toArray z order = true) (hS : S w.drew) (h : wpG P (o :: l).toArray S (lastQ P (o :: l).toArray ((o :: l).getD z o) (noEnd Q)) (inOrder (o :: l) o order) a w.drew) :
    wpAny P .any (o :: l).toArray (noEnd Q) (o :: l).toArray.size (Array.replicate (o :: l).toArray.size false) a w.drew := by
  simp only [gzB, Bool.and_eq_true, decide_eq_true_eq, List.all_eq_true] at hB
  obtain ⟨_, ⟨⟨⟨hs, ht⟩, hz⟩, hk⟩, hB⟩ := hB
  have := wpAnyZ_G (P := P) (Q := noEnd Q) (md := .any) hs (fun _ _ _ _ h => h) o hz order S (Array.replicate (o :: l).toArray.size false) a w.drew (fun p hp => hk p hp) hB hS h
  rw [ht] at this
  exact wpAny_of_Z _ _ _ _ this
theorem wp_region_Z {id : Nat} {a : Act} {w : World} {o : Oper} {l : List Oper} (z : Nat) (S : World → Prop) (order : List (Bool × Nat)) (hm : P.follows .mixedOrders = true) (hB : gzB (o :: l).toArray z order = true) (hS : S w.drew)
    (h : wpG P (o :: l).toArray S (lastQ P (o :: l).toArray ((o :: l).getD z o) (noEnd Q)) (inOrder (o :: l) o order) a w.drew) : (Code.region id (o :: l).toArray true).wp P Q a w :=
  Code.wp_mono noEnd_imp (wp_region_any hm (wpAny_Z order hB hS h))
theorem wpIn_region_Z {lp id : Nat} {a : Act} {w : World} {o : Oper} {l : List Oper} (z : Nat) (S : World → Prop) (order : List (Bool × Nat)) (hm : P.follows .mixedOrders = true) (hB : gzB (o :: l).toArray z order = true) (hS : S w.drew)
    (h : wpG P (o :: l).toArray S (lastQ P (o :: l).toArray ((o :: l).getD z o) (noEnd Q)) (inOrder (o :: l) o order) a w.drew) : (Code.region id (o :: l).toArray true).wpIn (Fence.wide.inRound lp) 0 P Q a w := by
  have hp : plainOps (o :: l).toArray = true := by simp only [gzB, Bool.and_eq_true] at hB; exact hB.1
  exact wpIn_region_any hm (anyIn_round hp _ _ _ _ (wpAny_Z order hB hS h))
theorem wpG_last {a : Act} {w : World} {o : Oper} (h : ∀ K : Act → World → Prop, (∀ a w, Q .normal a w → K a w) → if Region.wanted o (yielded ops a.tmps) then o.wp P a w K (noEnd Q) else K (a.put o.dst undef) w) : wpG P ops S (lastQ P ops o (noEnd Q)) [] a w :=
  h (fun a w => noEnd Q .normal a w) (fun _ _ h => h)
/-- an operation whose run is known, the last one -/
theorem wpG_lastRun {a : Act} {w w' : World} {o : Oper} {v : Value} (hw : Region.wanted o (yielded ops a.tmps) = true) (hr : (execOp a.eval o).run P w = .ok (.value v) w') (h : Q .normal (a.put o.dst v) w') : wpG P ops S (lastQ P ops o (noEnd Q)) [] a w := by
  refine wpG_last fun K hK => ?_
  rw [if_pos hw]
  unfold Oper.wp
  rw [hr]
  exact hK _ _ h
end
end Go.Proofs.Ytmbbmombhkaeoaa
