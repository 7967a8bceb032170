/-
  A region that draws its order, in the words of XHeld, at whatever condition S on the worlds that come up in it: in an activation, and in a round of a range over a function. No program in sight.
-/
import Derived.Test.YtiifmakhfpllnaaM11
import Derived.Test.YtiifmakhfpllnaaM05
import Derived.Test.YtiifmakhfpllnaaM02
import Derived.Test.YtiifmakhfpllnaaM03
namespace Go.Proofs.Ytiifmakhfpllnaa
open Go
section
variable {P : Program} {ops : Array Oper} {Q : Exit → Act → World → Prop} {S : World → Prop}
/-- 'true': it yields in every world of S; 'false': it comes up alone, and leaves such a world -/
def wpG (P : Program) (ops : Array Oper) (S : World → Prop) (Q : Exit → Act → World → Prop) : List (Bool × Oper) → Act → World → Prop
  | [], a, w => Q .normal a w
  | (true, o) :: rest, a, w => ∃ v, YieldsIf P ops S o v a ∧ wpG P ops S Q rest (a.put o.dst v) w
  | (false, o) :: rest, a, w => if Region.wanted o (yielded ops a.tmps) then o.wp P a w (fun a' w' => ∃ S' : World → Prop, (∀ X, S' X → S X) ∧ S' w' ∧ wpG P ops S' Q rest a' w') Q else wpG P ops S Q rest (a.put o.dst undef) w
theorem anyH_S {md : Region.Mode} {S' : World → Prop} (hS : ∀ X, S' X → S X) : ∀ (n : Nat) (listed : Array Bool) (a : Act) (w : World), wpAnyH P md ops Q S' n listed a w → wpAnyH P md ops Q S n listed a w
  | 0, _, _, _, h => h
  | n + 1, _, _, _, h => ⟨h.1, fun i hi => wpOp_mono (fun a' w' h' => ⟨hS _ h'.1, anyH_S hS n _ a' w' h'.2⟩) (h.2 i hi)⟩
theorem wpAnyH_G {md : Region.Mode} (hs : Region.noSelect ops = true) (hQ : ∀ c a a' w, Q (.panic c) a w → Q (.panic c) a' w) (d : Oper) : ∀ (l : List (Bool × Nat)) (S : World → Prop) (listed : Array Bool) (a : Act) (w : World), (∀ p ∈ l, p.2 < ops.size) →
    fB md ops l listed = true → S w → wpG P ops S Q (inOrder ops.toList d l) a w → wpAnyH P md ops Q S l.length listed a w
  | [], S, listed, a, w, _, hB, _, h => by
    refine wpAnyH_done ?_ h _
    simpa [fB] using hB
  | (true, k) :: l, S, listed, a, w, hl, hB, hS, h => by
    have hk : k < ops.size := hl _ List.mem_cons_self
    have h0 : ops[k]? = some (ops.toList.getD k d) := by simp [hk]
    simp only [fB, Bool.and_eq_true] at hB
    obtain ⟨v, hy, h⟩ := h
    exact wpAnyH_take h0 hs hB.1.1 hB.1.2 (fun c a w => hQ c _ _ w) hy hS (wpAnyH_G hs hQ d l S _ _ w (fun p hp => hl p (List.mem_cons_of_mem _ hp)) hB.2 hS h)
  | (false, k) :: l, S, listed, a, w, hl, hB, hS, h => by
    have hk : k < ops.size := hl _ List.mem_cons_self
    have h0 : ops[k]? = some (ops.toList.getD k d) := by simp [hk]
    simp only [fB, Bool.and_eq_true, decide_eq_true_eq] at hB
    refine wpAnyH_all hB.1 (by simp) fun i hi => ?_
    obtain rfl : i = k := by simpa using hi
    refine wpOp_step h0 fun K' hK => ?_
    replace h : wpG P ops S Q ((false, ops.toList.getD i d) :: inOrder ops.toList d l) a w := h
    unfold wpG at h
    split at h
    · rename_i hw
      rw [if_pos hw]
      exact Oper.wp_mono (fun a w h => let ⟨S', h1, h2, h3⟩ := h; hK _ _ ⟨h1 _ h2, anyH_S h1 _ _ _ _ (wpAnyH_G hs hQ d l S' _ a w (fun p hp => hl p (List.mem_cons_of_mem _ hp)) hB.2 h2 h3)⟩) h
    · rename_i hw
      rw [if_neg hw]
      exact hK _ _ ⟨hS, wpAnyH_G hs hQ d l S _ _ w (fun p hp => hl p (List.mem_cons_of_mem _ hp)) hB.2 hS h⟩
/-- what is asked of the region's text -/
def gB (ops : Array Oper) (order : List (Bool × Nat)) : Bool :=
  plainOps ops && (Region.noSelect ops && decide (order.length = ops.size) && order.all (fun p => decide (p.2 < ops.size)) && fB .any ops order (Array.replicate ops.size false))
theorem wpAny_G {o : Oper} {l : List Oper} {a : Act} {w : World} (order : List (Bool × Nat)) (hB : gB (o :: l).toArray order = true) (hS : S w.drew) (h : wpG P (o :: l).toArray S (noEnd Q) (inOrder (o :: l) o order) a w.drew) :
    wpAny P .any (o :: l).toArray (noEnd Q) (o :: l).toArray.size (Array.replicate (o :: l).toArray.size false) a w.drew := by
  simp only [gB, Bool.and_eq_true, decide_eq_true_eq, List.all_eq_true] at hB
  obtain ⟨_, ⟨⟨hs, ht⟩, hk⟩, hB⟩ := hB
  have := wpAnyH_G (P := P) (Q := noEnd Q) (md := .any) hs (fun _ _ _ _ h => h) o order S (Array.replicate (o :: l).toArray.size false) a w.drew (fun p hp => hk p hp) hB hS h
  rw [ht] at this
  exact wpAny_of_held _ _ _ _ this
theorem noEnd_imp (e : Exit) (a : Act) (w : World) (h : noEnd Q e a w) : Q e a w := by
  cases e <;> first | exact h | exact (h : False).elim
theorem wp_region_G {id : Nat} {a : Act} {w : World} {o : Oper} {l : List Oper} (S : World → Prop) (order : List (Bool × Nat)) (hm : P.follows .mixedOrders = true) (hB : gB (o :: l).toArray order = true) (hS : S w.drew)
    (h : wpG P (o :: l).toArray S (noEnd Q) (inOrder (o :: l) o order) a w.drew) : (Code.region id (o :: l).toArray true).wp P Q a w :=
  Code.wp_mono noEnd_imp (wp_region_any hm (wpAny_G order hB hS h))
theorem wpIn_region_G {lp id : Nat} {a : Act} {w : World} {o : Oper} {l : List Oper} (S : World → Prop) (order : List (Bool × Nat)) (hm : P.follows .mixedOrders = true) (hB : gB (o :: l).toArray order = true) (hS : S w.drew)
    (h : wpG P (o :: l).toArray S (noEnd Q) (inOrder (o :: l) o order) a w.drew) : (Code.region id (o :: l).toArray true).wpIn (Fence.wide.inRound lp) 0 P Q a w := by
  have hp : plainOps (o :: l).toArray = true := by simp only [gB, Bool.and_eq_true] at hB; exact hB.1
  exact wpIn_region_any hm (anyIn_round hp _ _ _ _ (wpAny_G order hB hS h))
variable {a : Act} {w : World} {rest : List (Bool × Oper)} {o : Oper}
theorem wpG_end (h : Q .normal a w) : wpG P ops S (noEnd Q) [] a w := h
/-- what yields in whatever world -/
theorem wpG_pure (h : ∀ K : Act → Prop, (∀ a, wpG P ops S Q rest a w → K a) → if Region.wanted o (yielded ops a.tmps) then ∃ v, (∀ w, (execOp a.eval o).run P w = .ok (.value v) w) ∧ K (a.put o.dst v) else K (a.put o.dst undef)) :
    wpG P ops S Q ((true, o) :: rest) a w := by
  have := h (fun a => wpG P ops S Q rest a w) (fun _ h => h)
  by_cases hw : Region.wanted o (yielded ops a.tmps) = true
  · rw [if_pos hw] at this
    obtain ⟨v, h1, h2⟩ := this
    exact ⟨v, .inl ⟨hw, fun w _ => h1 w⟩, h2⟩
  · rw [if_neg hw] at this
    exact ⟨undef, .inr ⟨by simpa using hw, rfl⟩, this⟩
/-- what yields in every world of S -/
theorem wpG_val (v : Value) (hw : Region.wanted o (yielded ops a.tmps) = true) (hr : ∀ W, S W → (execOp a.eval o).run P W = .ok (.value v) W) (h : wpG P ops S Q rest (a.put o.dst v) w) : wpG P ops S Q ((true, o) :: rest) a w :=
  ⟨v, .inl ⟨hw, hr⟩, h⟩
/-- a call, a store; from it on the condition may be a narrower one -/
theorem wpG_oneS (h : ∀ K : Act → World → Prop, (∀ S' : World → Prop, (∀ X, S' X → S X) → ∀ a w, S' w → wpG P ops S' Q rest a w → K a w) → if Region.wanted o (yielded ops a.tmps) then o.wp P a w K Q else wpG P ops S Q rest (a.put o.dst undef) w) : wpG P ops S Q ((false, o) :: rest) a w := by
  have := h (fun a w => ∃ S' : World → Prop, (∀ X, S' X → S X) ∧ S' w ∧ wpG P ops S' Q rest a w) (fun S' h0 _ _ h1 h2 => ⟨S', h0, h1, h2⟩)
  unfold wpG
  exact this
theorem wpG_one (h : ∀ K : Act → World → Prop, (∀ a w, S w → wpG P ops S Q rest a w → K a w) → if Region.wanted o (yielded ops a.tmps) then o.wp P a w K Q else wpG P ops S Q rest (a.put o.dst undef) w) : wpG P ops S Q ((false, o) :: rest) a w :=
  wpG_oneS fun K hK => h K fun a w => hK S (fun _ h => h) a w
end
end Go.Proofs.Ytiifmakhfpllnaa

namespace Go.Proofs.Ytiifmakhfpllnaa
open Go
section
variable {P : Program} {ops : Array Oper} {Q : Exit → Act → World → Prop} {md : Region.Mode} {S : World → Prop} {z : Nat}
/-- 'wpAnyH', but that behind operation z nothing is asked -/
def wpAnyZ (P : Program) (md : Region.Mode) (ops : Array Oper) (Q : Exit → Act → World → Prop) (S : World → Prop) (z : Nat) : Nat → Array Bool → Act → World → Prop
  | 0, listed, a, w => Region.ready md ops listed = [] ∧ Q .normal a w
  | fuel + 1, listed, a, w =>
    (Region.ready md ops listed = [] → Q .normal a w) ∧
    ∀ i ∈ Region.ready md ops listed, wpOp P ops Q i (fun a' w' => (i ≠ z → S w') ∧ wpAnyZ P md ops Q S z fuel (listed.setIfInBounds i true) a' w') a w
theorem wpAny_of_Z : ∀ (fuel : Nat) (listed : Array Bool) (a : Act) (w : World), wpAnyZ P md ops Q S z fuel listed a w → wpAny P md ops Q fuel listed a w
  | 0, _, _, _, h => h
  | fuel + 1, _, _, _, h => ⟨h.1, fun i hi => wpOp_mono (fun a' w' h' => wpAny_of_Z fuel _ a' w' h'.2) (h.2 i hi)⟩
theorem wpAnyZ_S {S' : World → Prop} (hS : ∀ X, S' X → S X) : ∀ (n : Nat) (listed : Array Bool) (a : Act) (w : World), wpAnyZ P md ops Q S' z n listed a w → wpAnyZ P md ops Q S z n listed a w
  | 0, _, _, _, h => h
  | n + 1, _, _, _, h => ⟨h.1, fun i hi => wpOp_mono (fun a' w' h' => ⟨fun hz => hS _ (h'.1 hz), wpAnyZ_S hS n _ a' w' h'.2⟩) (h.2 i hi)⟩
theorem wpAnyZ_first {i : Nat} {oi : Oper} {v : Value} (hi : ops[i]? = some oi) (hsel : ∀ (j : Nat) (o : Oper) cs b, ops[j]? = some o → o.op ≠ .select cs b)
    (hQ : ∀ c a w, Q (.panic c) (a.put oi.dst v) w → Q (.panic c) a w) (hz : ∀ oz, ops[z]? = some oz → ∃ e ∈ oz.after, Region.binds md e = true ∧ e.on = i) (hiz : i ≠ z) :
    ∀ (fuel : Nat) (listed : Array Bool) (a : Act) (w : World),
      (∀ j oj, ops[j]? = some oj → j ≠ i → listed.getD j true = false → (∀ e ∈ oj.after, Region.binds md e = true → e.on ≠ i) → oi.apart ops oj = true) →
      i ∈ Region.ready md ops listed → YieldsIf P ops S oi v a → S w →
      wpAnyZ P md ops Q S z fuel (listed.setIfInBounds i true) (a.put oi.dst v) w → wpAnyZ P md ops Q S z (fuel + 1) listed a w := by
  intro fuel
  induction fuel with
  | zero =>
    intro listed a w _ hr hy hS H
    refine ⟨fun h => (by rw [h] at hr; cases hr), fun j hj => ?_⟩
    by_cases hji : j = i
    · subst hji; exact hy.wpOp hi hS ⟨fun _ => hS, H⟩
    · have := ready_mono hj hji
      rw [H.1] at this
      cases this
  | succ fuel ih =>
    intro listed a w hfree hr hy hS H
    refine ⟨fun h => (by rw [h] at hr; cases hr), fun j hj => ?_⟩
    by_cases hji : j = i
    · subst hji; exact hy.wpOp hi hS ⟨fun _ => hS, H⟩
    · have h1 := H.2 j (ready_mono hj hji)
      obtain ⟨hjun, oj, hoj, hall⟩ := mem_ready.1 hj
      have hnot : ∀ e ∈ oj.after, Region.binds md e = true → e.on ≠ i := fun e he hb heq => by
        have h1 := hall e he hb
        have h0 := (mem_ready.1 hr).1
        rw [heq] at h1
        rcases Nat.lt_or_ge i listed.size with h' | h'
        · simp [h'] at h0 h1; rw [h0] at h1; cases h1
        · simp [Array.getElem?_eq_none h'] at h1
      have hjz : j ≠ z := fun e => by
        subst e
        obtain ⟨e, he, hb, ho⟩ := hz oj hoj
        exact hnot e he hb ho
      have h2 := wpOp_putIf hoj (hfree j oj hoj hji hjun hnot) (fun cs b => hsel i oi cs b hi) (fun cs b => hsel j oj cs b hoj) hQ hy h1
      have hfree' : ∀ k ok, ops[k]? = some ok → k ≠ i → (listed.setIfInBounds j true).getD k true = false →
          (∀ e ∈ ok.after, Region.binds md e = true → e.on ≠ i) → oi.apart ops ok = true := fun k ok hk hki hun hno => by
        refine hfree k ok hk hki ?_ hno
        by_cases hjk : j = k
        · subst hjk; exact hjun
        · rw [getD_set_ne true hjk] at hun; exact hun
      refine wpOp_mono (fun a' w' h3 => ⟨fun _ => h3.2.1 hjz, ih (listed.setIfInBounds j true) a' w' hfree' (ready_mono hr (Ne.symm hji)) h3.1 (h3.2.1 hjz) ?_⟩) h2
      rw [Array.setIfInBounds_comm _ _ hji]
      exact h3.2.2
/-- z waits for i -/
def waits (md : Region.Mode) (ops : Array Oper) (z i : Nat) : Bool := i != z && match ops[z]? with | some oz => oz.after.any (fun e => Region.binds md e && e.on == i) | none => false
theorem wpAnyZ_take {i : Nat} {oi : Oper} {v : Value} {fuel : Nat} {listed : Array Bool} {a : Act} {w : World} (hi : ops[i]? = some oi)
    (hs : Region.noSelect ops = true) (hf : Region.free md ops listed i = true) (hr : (Region.ready md ops listed).contains i = true) (hw : waits md ops z i = true)
    (hQ : ∀ c a w, Q (.panic c) (a.put oi.dst v) w → Q (.panic c) a w) (hy : YieldsIf P ops S oi v a) (hS : S w)
    (h : wpAnyZ P md ops Q S z fuel (listed.setIfInBounds i true) (a.put oi.dst v) w) : wpAnyZ P md ops Q S z (fuel + 1) listed a w := by
  unfold waits at hw
  simp only [Bool.and_eq_true, bne_iff_ne, ne_eq] at hw
  refine wpAnyZ_first hi (Region.noSelect_spec hs) hQ (fun oz hz => ?_) hw.1 fuel listed a w (Region.free_spec hi hf) (by simpa using hr) hy hS h
  have h2 := hw.2
  rw [hz] at h2
  simp only [Array.any_eq_true] at h2
  obtain ⟨k, hk, h2⟩ := h2
  simp only [Bool.and_eq_true, beq_iff_eq] at h2
  exact ⟨_, Array.getElem_mem hk, h2.1, h2.2⟩
/-- the last operation, behind all the others -/
def lastQ (P : Program) (ops : Array Oper) (o : Oper) (Q : Exit → Act → World → Prop) : Exit → Act → World → Prop
  | .normal, a, w => if Region.wanted o (yielded ops a.tmps) then o.wp P a w (fun a' w' => Q .normal a' w') Q else Q .normal (a.put o.dst undef) w
  | e, a, w => Q e a w
theorem wp_congrQ {o : Oper} {a : Act} {w : World} {K : Act → World → Prop} {Q1 Q2 : Exit → Act → World → Prop} (h1 : ∀ c a w, Q1 (.panic c) a w → Q2 (.panic c) a w) (h2 : ∀ a w, Q1 .outgrown a w → Q2 .outgrown a w) (h : o.wp P a w K Q1) : o.wp P a w K Q2 := by
  unfold Oper.wp at *
  generalize (execOp a.eval o).run P w = r at *
  have hl : LetsOut Q1 → LetsOut Q2 := fun ⟨a, w, h⟩ => ⟨a, w, h2 a w h⟩
  cases r with
  | ok n w' =>
    cases n <;> simp only [Oper.upon] at h ⊢ <;>
      first
        | exact h
        | exact Calls.mono h (fun e w'' he => by cases e <;> first | exact he | exact h1 _ _ _ he | exact hl he)
  | halt x w' => cases x <;> simp only [Oper.upon] at h ⊢ <;> first | exact h | exact h1 _ _ _ h
def zB (md : Region.Mode) (ops : Array Oper) (z : Nat) : List (Bool × Nat) → Array Bool → Bool
  | [], listed => decide (Region.ready md ops listed = [z]) && (Region.ready md ops (listed.setIfInBounds z true)).isEmpty
  | (true, k) :: rest, listed => Region.free md ops listed k && (Region.ready md ops listed).contains k && waits md ops z k && zB md ops z rest (listed.setIfInBounds k true)
  | (false, k) :: rest, listed => decide (Region.ready md ops listed = [k]) && zB md ops z rest (listed.setIfInBounds k true)
theorem wpAnyZ_G (hs : Region.noSelect ops = true) (hQ : ∀ c a a' w, Q (.panic c) a w → Q (.panic c) a' w) (d : Oper) (hz : z < ops.size) : ∀ (l : List (Bool × Nat)) (S : World → Prop) (listed : Array Bool) (a : Act) (w : World), (∀ p ∈ l, p.2 < ops.size) →
    zB md ops z l listed = true → S w → wpG P ops S (lastQ P ops (ops.toList.getD z d) Q) (inOrder ops.toList d l) a w → wpAnyZ P md ops Q S z (l.length + 1) listed a w
  | [], S, listed, a, w, _, hB, _, h => by
    simp only [zB, Bool.and_eq_true, decide_eq_true_eq, List.isEmpty_iff] at hB
    have h0 : ops[z]? = some (ops.toList.getD z d) := by simp [hz]
    refine ⟨fun hr => (by rw [hB.1] at hr; cases hr), fun i hi => ?_⟩
    rw [hB.1] at hi
    obtain rfl := List.mem_singleton.1 hi
    refine wpOp_step h0 fun K' hK => ?_
    replace h : (if Region.wanted (ops.toList.getD i d) (yielded ops a.tmps) then (ops.toList.getD i d).wp P a w (fun a' w' => Q .normal a' w') Q else Q .normal (a.put (ops.toList.getD i d).dst undef) w) := h
    split at h
    · rename_i hw
      rw [if_pos hw]
      exact Oper.wp_mono (fun a w h => hK _ _ ⟨fun hne => absurd rfl hne, hB.2, h⟩) h
    · rename_i hw
      rw [if_neg hw]
      exact hK _ _ ⟨fun hne => absurd rfl hne, hB.2, h⟩
  | (true, k) :: l, S, listed, a, w, hl, hB, hS, h => by
    have hk : k < ops.size := hl _ List.mem_cons_self
    have h0 : ops[k]? = some (ops.toList.getD k d) := by simp [hk]
    simp only [zB, Bool.and_eq_true] at hB
    obtain ⟨v, hy, h⟩ := h
    exact wpAnyZ_take h0 hs hB.1.1.1 hB.1.1.2 hB.1.2 (fun c a w => hQ c _ _ w) hy hS (wpAnyZ_G hs hQ d hz l S _ _ w (fun p hp => hl p (List.mem_cons_of_mem _ hp)) hB.2 hS h)
  | (false, k) :: l, S, listed, a, w, hl, hB, hS, h => by
    have hk : k < ops.size := hl _ List.mem_cons_self
    have h0 : ops[k]? = some (ops.toList.getD k d) := by simp [hk]
    simp only [zB, Bool.and_eq_true, decide_eq_true_eq] at hB
    refine ⟨fun hr => (by rw [hB.1] at hr; cases hr), fun i hi => ?_⟩
    rw [hB.1] at hi
    obtain rfl := List.mem_singleton.1 hi
    refine wpOp_step h0 fun K' hK => ?_
    replace h : wpG P ops S (lastQ P ops (ops.toList.getD z d) Q) ((false, ops.toList.getD i d) :: inOrder ops.toList d l) a w := h
    unfold wpG at h
    split at h
    · rename_i hw
      rw [if_pos hw]
      have h' := wp_congrQ (Q1 := lastQ P ops (ops.toList.getD z d) Q) (Q2 := Q) (fun c a w h => h) (fun a w h => h) h
      exact Oper.wp_mono (fun a w h => let ⟨S', h1, h2, h3⟩ := h; hK _ _ ⟨fun _ => h1 _ h2, wpAnyZ_S h1 _ _ _ _ (wpAnyZ_G hs hQ d hz l S' _ a w (fun p hp => hl p (List.mem_cons_of_mem _ hp)) hB.2 h2 h3)⟩) h'
    · rename_i hw
      rw [if_neg hw]
      exact hK _ _ ⟨fun _ => hS, wpAnyZ_G hs hQ d hz l S _ _ w (fun p hp => hl p (List.mem_cons_of_mem _ hp)) hB.2 hS h⟩
def gzB (ops : Array Oper) (z : Nat) (order : List (Bool × Nat)) : Bool :=
  plainOps ops && (Region.noSelect ops && decide (order.length + 1 = ops.size) && decide (z < ops.size) && order.all (fun p => decide (p.2 < ops.size)) && zB .any ops z order (Array.replicate ops.size false))
theorem wpAny_Z {o : Oper} {l : List Oper} {a : Act} {w : World} (order : List (Bool × Nat)) (hB : gzB (o :: l).toArray z order = true) (hS : S w.drew) (h : wpG P (o :: l).toArray S (lastQ P (o :: l).toArray ((o :: l).getD z o) (noEnd Q)) (inOrder (o :: l) o order) a w.drew) :
    wpAny P .any (o :: l).toArray (noEnd Q) (o :: l).toArray.size (Array.replicate (o :: l).toArray.size false) a w.drew := by
  simp only [gzB, Bool.and_eq_true, decide_eq_true_eq, List.all_eq_true] at hB
  obtain ⟨_, ⟨⟨⟨hs, ht⟩, hz⟩, hk⟩, hB⟩ := hB
  have := wpAnyZ_G (P := P) (Q := noEnd Q) (md := .any) hs (fun _ _ _ _ h => h) o hz order S (Array.replicate (o :: l).toArray.size false) a w.drew (fun p hp => hk p hp) hB hS h
  rw [ht] at this
  exact wpAny_of_Z _ _ _ _ this
theorem wp_region_Z {id : Nat} {a : Act} {w : World} {o : Oper} {l : List Oper} (z : Nat) (S : World → Prop) (order : List (Bool × Nat)) (hm : P.follows .mixedOrders = true) (hB : gzB (o :: l).toArray z order = true) (hS : S w.drew)
    (h : wpG P (o :: l).toArray S (lastQ P (o :: l).toArray ((o :: l).getD z o) (noEnd Q)) (inOrder (o :: l) o order) a w.drew) : (Code.region id (o :: l).toArray true).wp P Q a w :=
  Code.wp_mono noEnd_imp (wp_region_any hm (wpAny_Z order hB hS h))
theorem wpIn_region_Z {lp id : Nat} {a : Act} {w : World} {o : Oper} {l : List Oper} (z : Nat) (S : World → Prop) (order : List (Bool × Nat)) (hm : P.follows .mixedOrders = true) (hB : gzB (o :: l).toArray z order = true) (hS : S w.drew)
    (h : wpG P (o :: l).toArray S (lastQ P (o :: l).toArray ((o :: l).getD z o) (noEnd Q)) (inOrder (o :: l) o order) a w.drew) : (Code.region id (o :: l).toArray true).wpIn (Fence.wide.inRound lp) 0 P Q a w := by
  have hp : plainOps (o :: l).toArray = true := by simp only [gzB, Bool.and_eq_true] at hB; exact hB.1
  exact wpIn_region_any hm (anyIn_round hp _ _ _ _ (wpAny_Z order hB hS h))
theorem wpG_last {a : Act} {w : World} {o : Oper} (h : ∀ K : Act → World → Prop, (∀ a w, Q .normal a w → K a w) → if Region.wanted o (yielded ops a.tmps) then o.wp P a w K (noEnd Q) else K (a.put o.dst undef) w) : wpG P ops S (lastQ P ops o (noEnd Q)) [] a w :=
  h (fun a w => noEnd Q .normal a w) (fun _ _ h => h)
/-- an operation whose run is known, the last one -/
theorem wpG_lastRun {a : Act} {w w' : World} {o : Oper} {v : Value} (hw : Region.wanted o (yielded ops a.tmps) = true) (hr : (execOp a.eval o).run P w = .ok (.value v) w') (h : Q .normal (a.put o.dst v) w') : wpG P ops S (lastQ P ops o (noEnd Q)) [] a w := by
  refine wpG_last fun K hK => ?_
  rw [if_pos hw]
  unfold Oper.wp
  rw [hr]
  exact hK _ _ h
end
end Go.Proofs.Ytiifmakhfpllnaa

namespace Go.Proofs.Ytiifmakhfpllnaa
open Go.RowKit Go.Maps
attribute [local go_sem] mapAt_alloc mapAt_setCell mapAt_drew mapAt_drewN

set_option maxRecDepth 100000 in
set_option maxHeartbeats 400000 in
theorem Add_arg (s : List UInt8) (dv : Value) (bb : Option Addr) (w : World) (h : okName s = false ∨ bb = none) :
    Calls Try.prog 31 #[dv, strL s, .pointer bb] w fun e w' => e = .returned (.int .i64 1) ∧ Fr [] w w' := by
  go_enter Try.func31, Try.ntmps31
  go_wp2_with fail
  refine (nRight_calls s w).mono ?_
  rintro e w1 ⟨rfl, hf⟩
  cases hr : okName s with
  | false =>
    go_wp2
    go_ret
    exact ⟨rfl, hf⟩
  | true =>
    rw [hr] at h
    rcases h with h | rfl
    · cases h
    · go_wp2
      go_ret
      exact ⟨rfl, hf⟩
set_option maxRecDepth 100000 in
set_option maxHeartbeats 400000 in
theorem Add_there (db mb : Nat) (L : List Cel) (s : List UInt8) (bp : Addr) (w : World) (hD : DirW w db mb L) (hs : okName s = true) (h : findC L s ≠ none ∨ 8 ≤ L.length) :
    Calls Try.prog 31 #[.pointer (some ⟨db, 0, none⟩), strL s, .pointer (some bp)] w fun e w' => e = .returned (.int .i64 111) ∧ Fr [] w w' := by
  have hs' : s.length ≤ maxLen := Nat.le_trans (okName_len hs) (by decide)
  go_enter Try.func31, Try.ntmps31
  go_wp2_with fail
  refine (nRight_calls s w).mono ?_
  rintro e w1 ⟨rfl, hf⟩
  rw [hs]
  have hD1 := hD.fr0 hf
  have c0 := hD1.blk.cell 0
  obtain ⟨es, clock, hm, hi⟩ := hD1.map
  have hl := lookD hi hs' w1 hm
  have hsz := DirW.size hD1.rising hi
  have hlen := fun ty => run_len_map (P := Try.prog) (ty := ty) Try.underlying59 w1 hm
  cases hc : findC L s with
  | some c =>
    rw [hc] at hl
    unfold cpt Cel.ptr at hl
    go_wp2
    go_ret
    exact ⟨rfl, hf⟩
  | none =>
    rw [hc] at hl h
    unfold cpt at hl
    have h8 : (8 : Int) ≤ es.size := by
      rcases h with h | h
      · exact absurd rfl h
      · omega
    clear hsz
    go_wp2
    go_ret
    exact ⟨rfl, hf⟩
set_option maxRecDepth 100000 in
set_option maxHeartbeats 800000 in
theorem Add_yes (db mb : Nat) (L : List Cel) (s : List UInt8) (tb bm S g : Nat) (l : List Bool) (w : World) (hD : DirW w db mb L) (hs : okName s = true) (hc : findC L s = none) (h8 : L.length < 8) (hB : BitW w tb bm S g l) (hp : pow2 g = true) :
    Calls Try.prog 31 #[.pointer (some ⟨db, 0, none⟩), strL s, .pointer (some ⟨tb, 0, none⟩)] w fun e w' => e = .returned (.int .i64 0) ∧ ∃ c : Cel, c.x = ⟨s, true, true, S, g, l⟩ ∧ DirW w' db mb (insC c L) ∧ (∀ k ∈ c.feet, w.heap.size ≤ k) ∧ Fr [mb] w w' := by
  have hs' : s.length ≤ maxLen := Nat.le_trans (okName_len hs) (by decide)
  go_enter Try.func31, Try.ntmps31
  go_wp2_with fail
  refine (nRight_calls s w).mono ?_
  rintro e w1 ⟨rfl, hf⟩
  rw [hs]
  have hD1 := hD.fr0 hf
  have hB1 := hB.fr0 hf
  have c0 := hD1.blk.cell 0
  obtain ⟨es, clock, hm, hi⟩ := hD1.map
  have hl := lookD hi hs' w1 hm
  have hsz := DirW.size hD1.rising hi
  have hlen := fun ty => run_len_map (P := Try.prog) (ty := ty) Try.underlying59 w1 hm
  rw [hc] at hl
  unfold cpt at hl
  have h8' : ¬ (8 : Int) ≤ es.size := by omega
  clear hsz
  go_wp2_with fail
  obtain ⟨t, ht⟩ : ∃ t, strL s = .string t := ⟨_, rfl⟩
  have Ht := hidIt ht
  rw [ht]
  clear ht hl
  have hDd := hD1.blk.drew
  refine wp_region_Z 10 (Fr [] w1.drew) [(true, 0), (true, 1), (true, 2), (true, 3), (true, 4), (true, 5), (true, 6), (false, 7), (true, 8), (false, 9)] (by as_aux_lemma => kernel_rfl) (by as_aux_lemma => kernel_rfl) (Fr.refl _ _) ?_
  simp only [inOrder, List.map_cons, List.map_nil, List.getD_cons_zero, List.getD_cons_succ]
  iterate 3
    refine wpG_pure fun K hK => ?_
    go_simp
    refine hK _ ?_
    clear hK K
  refine wpG_val (.map (some mb)) (by first | rfl | go_simp) (fun X hX => by have cc := (hDd.fr0 hX).cell; go_simp) ?_
  simp only [Act.put, List.setIfInBounds_toArray, List.set_cons_zero, List.set_cons_succ]
  iterate 3
    refine wpG_pure fun K hK => ?_
    go_simp
    refine hK _ ?_
    clear hK K
  refine wpG_one fun K hK => ?_
  go_simp
  refine (Copy_calls tb bm S g l _ (hB1.fr0 (Fr.refl [] w1).drew)).mono ?_
  rintro e w2 ⟨tb', mb', rfl, n1, n2, hB2, hf2⟩
  refine hK _ _ (hf2) ?_
  clear hK K
  iterate 1
    refine wpG_pure fun K hK => ?_
    go_simp
    refine hK _ ?_
    clear hK K
  refine wpG_one fun K hK => ?_
  go_simp
  refine hK _ _ (hf2.alloc _) ?_
  clear hK K
  have hm2 := mapAt_fr hm ((Fr.refl [] w1).drew.trans0 hf2) (by simp)
  have hlt2 := mapAt_lt hm2
  have hm3 : mapAt (w2.alloc (.cells #[.string t, .bool true, .bool true, .pointer (some ⟨tb', 0, none⟩)] 36)) mb = some (es, clock) := by rw [mapAt_alloc _ hlt2]; exact hm2
  obtain ⟨es', clock', hr, hi'⟩ := run_mapUpdate_isM (P := Try.prog) Try.underlying59 keyedStr hi (keyStr hs') (.pointer (some ⟨w2.heap.size, 0, none⟩)) _ hm3
  rw [Ht.out] at hr
  simp only [World.size_drew] at n1 n2
  have hmlt := mapAt_lt hm3
  have Hm := hidIt (mapAt_putMap hmlt es' clock')
  have hf3 := putMap_fr (w2.alloc (.cells #[.string t, .bool true, .bool true, .pointer (some ⟨tb', 0, none⟩)] 36)) mb es' clock'
  have hlb := hB2.lt
  have hlm := mapAt_lt hm
  have hown := hB2.ne
  have hfa : Fr [] w1 (w2.alloc (.cells #[.string t, .bool true, .bool true, .pointer (some ⟨tb', 0, none⟩)] 36)) := ((Fr.refl [] w1).drew.trans0 hf2).alloc _
  have hB3 := (hB2.fr0 ((Fr.refl [] w2).alloc (.cells #[.string t, .bool true, .bool true, .pointer (some ⟨tb', 0, none⟩)] 36))).fr hf3 (by simp; omega) (by simp; omega)
  have hE3 : Blk (putMap (w2.alloc (.cells #[.string t, .bool true, .bool true, .pointer (some ⟨tb', 0, none⟩)] 36)) mb es' clock') w2.heap.size [strL s, .bool true, .bool true, .pointer (some ⟨tb', 0, none⟩)] 36 := by
    rw [Ht.out]
    exact (Blk.new w2 [.string t, .bool true, .bool true, .pointer (some ⟨tb', 0, none⟩)] 36).fr hf3 (by simp; omega)
  have hF3 := hfa.weak.trans' hf3
  have hs0 := hf.size
  have hs1 := hf2.size
  simp only [World.size_drew] at hs1
  have Hd := hidIt (hD1.ins (c := ⟨⟨s, true, true, S, g, l⟩, w2.heap.size, tb', mb'⟩) hc h8 hs hF3 Hm.out hi' ⟨hE3, hB3, hp⟩ (by simp [Cel.feet]; omega) ⟨by show w2.heap.size ≠ tb'; omega, by show w2.heap.size ≠ mb'; omega, hown⟩)
  have Hfr := hidIt (hf.weak.trans' hF3)
  have Hnew : Hid (∀ k ∈ (⟨⟨s, true, true, S, g, l⟩, w2.heap.size, tb', mb'⟩ : Cel).feet, w.heap.size ≤ k) := hidIt (by simp [Cel.feet]; omega)
  clear hE3 hB3 hF3 hfa hf3 hlb hown hs0 hs1 n1 n2 hlm Hm
  generalize putMap (w2.alloc (.cells #[.string t, .bool true, .bool true, .pointer (some ⟨tb', 0, none⟩)] 36)) mb es' clock' = w3 at *
  refine wpG_last fun K hK => ?_
  go_simp
  refine hK _ _ ?_
  clear hK K
  go_wp2
  go_ret
  exact ⟨rfl, _, rfl, Hd.out, Hnew.out, Hfr.out⟩
end Go.Proofs.Ytiifmakhfpllnaa

namespace Go.Proofs.Ytiifmakhfpllnaa
open Go.RowKit Go.Maps
attribute [local go_sem] mapAt_alloc mapAt_setCell mapAt_drew mapAt_drewN

theorem chC_same {L : List Cel} {p q : List UInt8 → Bool} {f : Ent → Ent} (h : ∀ c ∈ L, p c.x.name = q c.x.name) : chC L p f = chC L q f := by
  unfold chC
  exact List.map_congr_left fun d hd => by rw [h d hd]
theorem chC_zero {L : List Cel} {f : Ent → Ent} : chC L (fun _ => false) f = L := by
  unfold chC
  exact (List.map_congr_left fun d _ => by simp).trans (List.map_id _)
theorem chC_more {L : List Cel} {p : List UInt8 → Bool} {f : Ent → Ent} (hname : ∀ x, (f x).name = x.name) {s : List UInt8} (hp : p s = false) :
    chC (chC L p f) (fun t => decide (t = s)) f = chC L (fun t => p t || decide (t = s)) f := by
  unfold chC
  rw [List.map_map]
  refine List.map_congr_left fun d _ => ?_
  simp only [Function.comp]
  rw [chC_name hname]
  by_cases h : p d.x.name = true
  · have : ¬ d.x.name = s := fun e => by rw [e, hp] at h; cases h
    simp [this]
  · simp [h]
theorem mem_chC_not {L : List Cel} {p : List UInt8 → Bool} {f : Ent → Ent} {c : Cel} (hc : c ∈ L) (hp : p c.x.name = false) : c ∈ chC L p f := mem_chC.2 ⟨c, hc, by rw [hp]; simp⟩
def allC (L : List Cel) (f : Ent → Ent) : List Cel := chC L (fun _ => true) f
theorem feet_chC (L : List Cel) (p : List UInt8 → Bool) (f : Ent → Ent) : feet (chC L p f) = feet L := by
  unfold feet chC
  rw [List.flatMap_map]
  congr 1
  funext d
  simp only [Cel.feet]
  rw [(chC_eb d).1, (chC_eb d).2.1, (chC_eb d).2.2]
/-- where a loop over a directory is -/
structure MidD (w : World) (db mb rb : Nat) (L : List Cel) (f : Ent → Ent) (p : List UInt8 → Bool) (K : Value → Prop) (cnt : Nat) : Prop where
  dir : DirW w db mb (chC L p f)
  rng : RngM Try.prog 9 w mb rb (dirM L) K cnt
  left : ∀ c ∈ L, (p c.x.name = false ↔ K (strL c.x.name))
section
variable {w w' : World} {db mb rb cnt cnt' : Nat} {L : List Cel} {f : Ent → Ent} {p : List UInt8 → Bool} {K : Value → Prop}
theorem MidD.start (h : DirW w db mb L) (hr : RngM Try.prog 9 w mb rb (dirM L) (fun k => (dirM L k).isSome = true) cnt) : MidD w db mb rb L f (fun _ => false) (fun k => (dirM L k).isSome = true) cnt :=
  ⟨by rw [chC_zero]; exact h, hr, fun c hc => ⟨fun _ => (DirW.one_key L _).1 (List.mem_map.2 ⟨c, hc, rfl⟩), fun _ => rfl⟩⟩
theorem MidD.done (h : MidD w db mb rb L f p K cnt) (hK : ∀ k, ¬ K k) : DirW w db mb (allC L f) := by
  have : chC L p f = allC L f := chC_same fun c hc => by
    cases hp : p c.x.name with
    | true => rfl
    | false => exact absurd ((h.left c hc).1 hp) (hK _)
  rw [← this]
  exact h.dir
/-- where a round of it is -/
theorem MidD.next {K' : Value → Prop} (h : MidD w db mb rb L f p K cnt) (_ : RngM Try.prog 9 w' mb rb (dirM L) K' cnt') (hf : Fr [rb] w w') (hrb : ∀ k ∈ homes db mb L, k ≠ rb) : DirW w' db mb (chC L p f) :=
  h.dir.fr hf fun k hk => by
    have : homes db mb (chC L p f) = homes db mb L := by unfold homes; rw [feet_chC]
    rw [this] at hk
    simpa using hrb k hk
theorem MidD.step (h : DirW w db mb (chC L p f)) (hl : ∀ c ∈ L, (p c.x.name = false ↔ K (strL c.x.name))) (hname : ∀ x, (f x).name = x.name) {c : Cel} (hc : c ∈ L) (hK : K (strL c.x.name)) 
    (hr : RngM Try.prog 9 w' mb rb (dirM L) (fun x => K x ∧ x ≠ strL c.x.name) cnt') (hf : Fr c.feet w w') (hE : EntW w' (c.on f)) : MidD w' db mb rb L f (fun t => p t || decide (t = c.x.name)) (fun x => K x ∧ x ≠ strL c.x.name) cnt' := by
  have hp := (hl c hc).2 hK
  refine ⟨?_, hr, fun d hd => ?_⟩
  · rw [← chC_more hname hp]
    exact h.one (mem_chC_not hc hp) hname hf hE
  · have := hl d hd
    constructor
    · intro h2
      have h3 := Bool.or_eq_false_iff.1 h2
      exact ⟨this.1 h3.1, fun e => by have := strL_inj e; simp [this] at h3⟩
    · rintro ⟨h2, h3⟩
      refine Bool.or_eq_false_iff.2 ⟨this.2 h2, ?_⟩
      have : ¬ d.x.name = c.x.name := fun e => h3 (by rw [e])
      simpa using this
theorem MidD.ent (h : MidD w db mb rb L f p K cnt) {c : Cel} (hc : c ∈ L) (hK : K (strL c.x.name)) : EntW w c := h.dir.ents c (mem_chC_not hc ((h.left c hc).2 hK))
end
def wrE (f n : Int) (x : Ent) : Ent := if x.on = true then { x with S := (doS x.g (x.S, x.l) (0, f, n)).1.1, l := (doS x.g (x.S, x.l) (0, f, n)).1.2 } else x
def rzE (n : Int) (x : Ent) : Ent := { x with S := (doS x.g (x.S, x.l) (2, 0, n)).1.1, l := (doS x.g (x.S, x.l) (2, 0, n)).1.2 }
theorem wrE_name (f n : Int) (x : Ent) : (wrE f n x).name = x.name := by unfold wrE; split <;> rfl
theorem feet_lt {w : World} {db mb : Nat} {L : List Cel} (h : DirW w db mb L) {c : Cel} (hc : c ∈ L) {k : Nat} (hk : k ∈ c.feet) : k < w.heap.size := h.lt k (by simp only [homes, List.mem_cons]; exact .inr (.inr (mem_feet.2 ⟨c, hc, hk⟩)))
set_option maxRecDepth 100000 in
set_option maxHeartbeats 800000 in
theorem dWrite_calls (db mb : Nat) (L : List Cel) (f n : Int) (w : World) (h : DirW w db mb L) (hn : -9223372036854775808 ≤ n ∧ n ≤ 9223372036854775807) :
    Calls Try.prog 13 #[.pointer (some ⟨db, 0, none⟩), .int .i64 f, .int .i64 n] w fun e w' => e = .returned (.tuple #[]) ∧ DirW w' db mb (allC L (wrE f n)) ∧ Fr (feet L) w w' := by
  have c0 := h.blk.cell 0
  obtain ⟨es, clock, hm, hi⟩ := h.map
  go_enter Try.func13, Try.ntmps13
  go_wp2_with (first
    | (at_range; refine wpList_range_isM rfl _ _ rfl Try.underlying59 hi mb rfl hm ?_; intro hrg0)
    | go_in)
  go_frame
  have hF0 := (Fr.refl [] w).alloc (.mapIter (some mb) clock #[] clock)
  go_loopw [7] (fun _ wr => ∃ p K cnt, MidD wr db mb w.heap.size L (wrE f n) p K cnt ∧ Fr (feet L) w wr) (fun _ wr => wr.rangeLeft mb w.heap.size)
  case atStart => exact ⟨_, _, _, MidD.start (h.fr0 hF0) hrg0, hF0.weak⟩
  case round =>
    clear hrg0 hF0 c0 hm hi
    obtain ⟨p, K, cnt, hM, hF⟩ := hrel
    have hleft := hidIt hM.rng.left
    generalize wr = wo at *
    have hrg := hM.rng
    go_wp2_with (first
      | (at_next; refine wpList_next_isM rfl _ rfl mb w.heap.size rfl hrg ?_ ?_)
      | go_in)
    · intro hK
      have hD := hM.done hK
      clear hM hrg
      go_wp2
      exact bodyPost_end (v := .tuple #[]) (results_none rfl _ _ _) rfl ⟨rfl, hD, hF⟩
    · intro k v w1 cnt' hK hv hrg1 hlt hf1 hsz hen
      obtain ⟨c, hc, rfl, rfl⟩ := dirM_some hv
      have hlf : ∀ k ∈ c.feet, k < w.heap.size := fun k hk => feet_lt h hc hk
      have hM1 := hM.next hrg1 hf1 (fun k hk => by have := h.lt k hk; simp; omega)
      have hE := (hM.ent hc hK).fr hf1 (fun k hk hx => by have := hlf k hk; have := List.mem_singleton.1 hx; omega)
      have ce := hE.blk.cell
      have hown := h.own hc
      have keyS := Set_calls c.tb c.mb c.x.S c.x.g c.x.l f n w1 hE.bits hn
      have hF1 : Fr (feet L) w w1 := hF.trans hf1 (fun x hx hl => by have := List.mem_singleton.1 hx; omega)
      have hrn : w.heap.size ∉ c.feet := fun hx => by have := hlf _ hx; omega
      clear hv hrg hf1
      replace hM := hidIt hM
      unfold Cel.ptr at *
      cases hon : c.x.on with
      | false =>
        rw [hon] at ce
        have hEq : c.on (wrE f n) = c := by unfold Cel.on wrE; rw [hon]; rfl
        go_wp2
        go_roundw
        case rel => exact ⟨_, _, _, MidD.step hM1 hM.out.left (wrE_name f n) hc hK hrg1 (Fr.refl _ _) (by rw [hEq]; exact hE), hF1⟩
        case measure => rw [hrg1.left, hleft.out]; omega
      | true =>
        rw [hon] at ce
        go_wp2_with fail
        refine keyS.mono ?_
        rintro e w2 ⟨rfl, hB, hf⟩
        have hE2 : EntW w2 (c.on (wrE f n)) := by
          refine ⟨?_, ?_, ?_⟩
          · have := hE.blk.fr hf (by simp; exact hown.2.1)
            unfold Cel.on wrE
            rw [hon] at this ⊢
            exact this
          · unfold Cel.on wrE
            rw [hon]
            exact hB
          · unfold Cel.on wrE
            rw [hon]
            exact hE.pow
        have hfc : Fr c.feet w1 w2 := hf.mono fun k hk _ => by have := List.mem_singleton.1 hk; simp [Cel.feet, this]
        have hrg2 := hrg1.fr hfc (fun hx => hM.out.dir.home.2 (by rw [feet_chC]; exact mem_feet.2 ⟨c, hc, hx⟩)) hrn
        go_wp2
        go_roundw
        case rel => exact ⟨_, _, _, MidD.step hM1 hM.out.left (wrE_name f n) hc hK hrg2 hfc hE2, hF1.trans' (hfc.mono fun k hk _ => mem_feet.2 ⟨c, hc, hk⟩)⟩
        case measure => rw [hrg2.left, hleft.out]; omega
set_option maxRecDepth 100000 in
set_option maxHeartbeats 800000 in
theorem dResize_no (db : Nat) (n : Int) (w : World) (hn : okSec n = false) :
    Calls Try.prog 34 #[.pointer (some ⟨db, 0, none⟩), .int .i64 n] w fun e w' => e = .returned (.int .i64 1) ∧ Fr [] w w' := by
  go_enter Try.func34, Try.ntmps34
  go_wp2_with fail
  refine (New_no n 1 w (by unfold okNew; rw [hn]; rfl)).mono ?_
  rintro e w1 ⟨rfl, rfl⟩
  go_wp2
  go_ret
  exact ⟨rfl, Fr.refl _ _⟩
set_option maxRecDepth 100000 in
set_option maxHeartbeats 800000 in
theorem dResize_yes (db mb : Nat) (L : List Cel) (n : Int) (w : World) (h : DirW w db mb L) (hn : okSec n = true) :
    Calls Try.prog 34 #[.pointer (some ⟨db, 0, none⟩), .int .i64 n] w fun e w' => e = .returned (.int .i64 0) ∧ DirW w' db mb (allC L (rzE n)) ∧ Fr (feet L) w w' := by
  go_enter Try.func34, Try.ntmps34
  go_wp2_with fail
  refine (New_yes n 1 w (by unfold okNew; rw [hn]; rfl)).mono ?_
  rintro e w1 ⟨tb0, mb0, rfl, _, _, _, hf⟩
  have h1 := h.fr0 hf
  have hsz1 := hf.size
  have c0 := h1.blk.cell 0
  obtain ⟨es, clock, hm, hi⟩ := h1.map
  go_wp2_with (first
    | (at_range; refine wpList_range_isM rfl _ _ rfl Try.underlying59 hi mb rfl hm ?_; intro hrg0)
    | go_in)
  go_frame
  have hF0 := (Fr.refl [] w1).alloc (.mapIter (some mb) clock #[] clock)
  go_loopw [8] (fun _ wr => ∃ p K cnt, MidD wr db mb w1.heap.size L (rzE n) p K cnt ∧ Fr (feet L) w wr) (fun _ wr => wr.rangeLeft mb w1.heap.size)
  case atStart => exact ⟨_, _, _, MidD.start (h1.fr0 hF0) hrg0, (hf.trans0 hF0).weak⟩
  case round =>
    clear hrg0 hF0 c0 hm hi
    obtain ⟨p, K, cnt, hM, hF⟩ := hrel
    have hleft := hidIt hM.rng.left
    generalize wr = wo at *
    have hrg := hM.rng
    go_wp2_with (first
      | (at_next; refine wpList_next_isM rfl _ rfl mb w1.heap.size rfl hrg ?_ ?_)
      | go_in)
    · intro hK
      have hD := hM.done hK
      clear hM hrg
      go_wp2
      go_ret
      exact ⟨rfl, hD, hF⟩
    · intro k v w2 cnt' hK hv hrg1 hlt hf1 hsz hen
      obtain ⟨c, hc, rfl, rfl⟩ := dirM_some hv
      have hlf : ∀ k ∈ c.feet, k < w1.heap.size := fun k hk => feet_lt h1 hc hk
      have hM1 := hM.next hrg1 hf1 (fun k hk => by have := h1.lt k hk; simp; omega)
      have hE := (hM.ent hc hK).fr hf1 (fun k hk hx => by have := hlf k hk; have := List.mem_singleton.1 hx; omega)
      have ce := hE.blk.cell
      have hown := h1.own hc
      have keyS := Resize_calls c.tb c.mb c.x.S c.x.g c.x.l 0 n w2 hE.bits
      have hF1 : Fr (feet L) w w2 := hF.trans hf1 (fun x hx hl => by have := List.mem_singleton.1 hx; omega)
      have hrn : w1.heap.size ∉ c.feet := fun hx => by have := hlf _ hx; omega
      clear hv hrg hf1
      replace hM := hidIt hM
      unfold Cel.ptr at *
      go_wp2_with fail
      refine keyS.mono ?_
      rintro e w3 ⟨rfl, hB, hf⟩
      have hE2 : EntW w3 (c.on (rzE n)) := ⟨hE.blk.fr hf (by simp; omega), hB, hE.pow⟩
      have hfc : Fr c.feet w2 w3 := hf.mono fun k hk _ => by simp at hk; simp [Cel.feet]; omega
      have hrg2 := hrg1.fr hfc (fun hx => hM.out.dir.home.2 (by rw [feet_chC]; exact mem_feet.2 ⟨c, hc, hx⟩)) hrn
      go_wp2
      go_roundw
      case rel => exact ⟨_, _, _, MidD.step hM1 hM.out.left (fun _ => rfl) hc hK hrg2 hfc hE2, hF1.trans' (hfc.mono fun k hk _ => mem_feet.2 ⟨c, hc, hk⟩)⟩
      case measure => rw [hrg2.left, hleft.out]; omega
end Go.Proofs.Ytiifmakhfpllnaa

namespace Go.Proofs.Ytiifmakhfpllnaa
open Go.RowKit Go.Maps
structure OpD where
  k : Int
  name : List UInt8
  other : List UInt8
  sec : Int
  gr : Int
  fr : Int
  lo : Int
  on : Bool
def opdC (o : OpD) : List Value := [.int .i64 o.k, strL o.name, strL o.other, .int .i64 o.sec, .int .i64 o.gr, .int .i64 o.fr, .int .i64 o.lo, .bool o.on]
def opdV (o : OpD) : Value := .agg (opdC o).toArray
abbrev in64 (n : Int) : Prop := -9223372036854775808 ≤ n ∧ n ≤ 9223372036854775807
def wfD (o : OpD) : Prop := in64 o.k ∧ in64 o.sec ∧ in64 o.gr ∧ in64 o.fr ∧ in64 o.lo ∧ o.name.length ≤ maxLen ∧ o.other.length ≤ maxLen
def zOD : OpD := ⟨0, [], [], 0, 0, 0, 0, false⟩
abbrev SlOD (w : World) (v : Value) (l : List OpD) : Prop := SlF opdC w v l
end Go.Proofs.Ytiifmakhfpllnaa

namespace Go.Proofs.Ytiifmakhfpllnaa
open Go.RowKit Go.Maps

def newE (o : OpD) : Ent := ⟨o.name, true, true, (doS o.gr.toNat (o.sec.toNat, List.replicate (gran o.sec.toNat o.gr.toNat) false) (0, o.fr, o.lo)).1.1, o.gr.toNat, (doS o.gr.toNat (o.sec.toNat, List.replicate (gran o.sec.toNat o.gr.toNat) false) (0, o.fr, o.lo)).1.2⟩
def allE (E : List Ent) (f : Ent → Ent) : List Ent := chE E (fun _ => true) f
def codeE (E : List Ent) (s : List UInt8) : Int := match findE E s with
  | none => 112
  | some _ => 0
def addO (E : List Ent) (o : OpD) : List Ent × Int :=
  if okNew o.sec o.gr = false ∨ okName o.name = false then (E, 1) else if findE E o.name ≠ none ∨ 8 ≤ E.length then (E, 111) else (insE (newE o) E, 0)
def mgO (E : List Ent) (s t : List UInt8) : List Ent × Int := match findE E s, findE E t with
  | some c, some d => (oneE E s (mgE d), if c.S = d.S then 0 else 1)
  | _, _ => (E, 112)
def runD (E : List Ent) (o : OpD) : List Ent × Int :=
  if o.k = 0 then addO E o
  else if o.k = 1 then (rmE E o.name, codeE E o.name)
  else if o.k = 2 then (oneE E o.name (onE o.on), codeE E o.name)
  else if o.k = 3 then (oneE E o.name clrE, codeE E o.name)
  else if o.k = 4 then mgO E o.name o.other
  else if o.k = 5 then (allE E (wrE o.fr o.lo), 0)
  else if o.k = 6 then (if okSec o.sec = true then (allE E (rzE o.sec), 0) else (E, 1))
  else (E, 0)
def runDs (E : List Ent) (ops : List OpD) : List Ent := ops.foldl (fun E o => (runD E o).1) E
theorem codeE_map (L : List Cel) (s : List UInt8) : codeE (L.map (·.x)) s = dn (findC L s) := by
  unfold codeE
  rw [findC_E]
  cases findC L s <;> rfl
theorem oneC_map (L : List Cel) (s : List UInt8) (f : Ent → Ent) : (oneC L s f).map (·.x) = oneE (L.map (·.x)) s f := chC_E L _ f
theorem allC_map (L : List Cel) (f : Ent → Ent) : (allC L f).map (·.x) = allE (L.map (·.x)) f := chC_E L _ f
theorem findC_isNone (L : List Cel) (s : List UInt8) : findE (L.map (·.x)) s ≠ none ↔ findC L s ≠ none := by
  rw [findC_E]
  cases findC L s <;> simp
/-- an Ent's well-formedness -/
structure OkE (x : Ent) : Prop where
  name : okName x.name = true
  size : x.S ≤ 4096
  pow : pow2 x.g = true
  len : x.l.length = gran x.S x.g
structure OkD (E : List Ent) : Prop where
  all : ∀ x ∈ E, OkE x
  few : E.length ≤ 8
  rising : E.Pairwise fun a b => a.name < b.name
theorem DirW.ok {w : World} {db mb : Nat} {L : List Cel} (h : DirW w db mb L) : OkD (L.map (·.x)) := by
  refine ⟨fun x hx => ?_, by rw [List.length_map]; exact h.few, by rw [List.pairwise_map]; exact h.rising⟩
  obtain ⟨c, hc, rfl⟩ := List.mem_map.1 hx
  have hE := h.ents c hc
  exact ⟨h.names c hc, hE.bits.size, hE.pow, hE.bits.len⟩
theorem insE_filter {p : List UInt8 → Bool} : ∀ {E : List Ent}, E.Pairwise (fun a b => a.name < b.name) → ∀ {e : Ent}, e ∈ E → p e.name = false → insE e (E.filter fun d => p d.name) = E.filter fun d => p d.name || decide (d.name = e.name)
  | [], _, e, he, _ => by cases he
  | d :: l, h, e, he, hp => by
    have h' := List.pairwise_cons.1 h
    rcases List.mem_cons.1 he with rfl | hl
    · have h1 : l.filter (fun d => p d.name || decide (d.name = e.name)) = l.filter fun d => p d.name := List.filter_congr fun x hx => by
        have : ¬ x.name = e.name := fun h2 => by have := h'.1 x hx; rw [h2] at this; exact List.lt_irrefl _ this
        simp [this]
      rw [List.filter_cons, if_neg (by simp [hp]), List.filter_cons, if_pos (by simp), h1]
      have h2 : ∀ x ∈ l.filter (fun d => p d.name), e.name < x.name := fun x hx => h'.1 x (List.mem_filter.1 hx).1
      cases hf : l.filter (fun d => p d.name) with
      | nil => rfl
      | cons x r =>
        have := h2 x (by rw [hf]; exact List.mem_cons_self)
        simp only [insE, if_pos this]
    · have hlt := h'.1 e hl
      have hne : ¬ d.name = e.name := fun h2 => by rw [h2] at hlt; exact List.lt_irrefl _ hlt
      have hng : ¬ e.name < d.name := fun h2 => List.lt_irrefl _ (List.lt_trans h2 hlt)
      rw [List.filter_cons, List.filter_cons]
      cases hd : p d.name with
      | true =>
        rw [if_pos rfl, if_pos (by simp)]
        simp only [insE, if_neg hng]
        rw [insE_filter h'.2 hl hp]
      | false =>
        rw [if_neg (by simp), if_neg (by simp [hne])]
        exact insE_filter h'.2 hl hp
theorem insE_len (e : Ent) : ∀ E : List Ent, (insE e E).length = E.length + 1
  | [] => rfl
  | d :: l => by
    simp only [insE]
    split
    · rfl
    · simp [insE_len e l]
theorem rising_len {E : List Ent} (h : E.Pairwise (fun a b => a.name < b.name)) {e : Ent} (he : e ∈ E) {p : List UInt8 → Bool} (hp : p e.name = false) : (E.filter fun d => p d.name).length < E.length := by
  have h1 := congrArg List.length (insE_filter h he hp)
  rw [insE_len] at h1
  have := List.length_filter_le (fun d => p d.name || decide (d.name = e.name)) E
  omega
end Go.Proofs.Ytiifmakhfpllnaa
