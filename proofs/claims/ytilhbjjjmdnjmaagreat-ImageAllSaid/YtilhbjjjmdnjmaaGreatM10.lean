/-
  A region that draws its order, in which what is no call yields alike in every world that has grown from the first one, and the calls stand in one chain: one walk, in an order that is handed in. No program in sight.
-/
import Derived.Test.YtilhbjjjmdnjmaaGreatM09
import Derived.OrdersHeld
import Derived.OrdersIn
import Derived.RangeFuncCalls
import Derived.TacticsIn
namespace Go.Proofs.YtilhbjjjmdnjmaaGreat
open Go
section
variable {P : Program} {ops : Array Oper} {Q : Exit → Act → World → Prop} {w0 : World}
/-- 'true': it yields in every world that has grown from w0; 'false': it comes up alone, and leaves such a world -/
def wpF (P : Program) (ops : Array Oper) (w0 : World) (Q : Exit → Act → World → Prop) : List (Bool × Oper) → Act → World → Prop
  | [], a, w => Q .normal a w
  | (true, o) :: rest, a, w => ∃ v, YieldsIf P ops (Fr [] w0) o v a ∧ wpF P ops w0 Q rest (a.put o.dst v) w
  | (false, o) :: rest, a, w => if Region.wanted o (yielded ops a.tmps) then o.wp P a w (fun a' w' => Fr [] w0 w' ∧ wpF P ops w0 Q rest a' w') Q else wpF P ops w0 Q rest (a.put o.dst undef) w
def fB (md : Region.Mode) (ops : Array Oper) : List (Bool × Nat) → Array Bool → Bool
  | [], listed => (Region.ready md ops listed).isEmpty
  | (true, k) :: rest, listed => Region.free md ops listed k && (Region.ready md ops listed).contains k && fB md ops rest (listed.setIfInBounds k true)
  | (false, k) :: rest, listed => decide (Region.ready md ops listed = [k]) && fB md ops rest (listed.setIfInBounds k true)
/-- the operations in the order that is handed in -/
def inOrder (l : List Oper) (d : Oper) (order : List (Bool × Nat)) : List (Bool × Oper) := order.map fun p => (p.1, l.getD p.2 d)
theorem wpAnyH_F {md : Region.Mode} (hs : Region.noSelect ops = true) (hQ : ∀ c a a' w, Q (.panic c) a w → Q (.panic c) a' w) (d : Oper) : ∀ (l : List (Bool × Nat)) (listed : Array Bool) (a : Act) (w : World), (∀ p ∈ l, p.2 < ops.size) →
    fB md ops l listed = true → Fr [] w0 w → wpF P ops w0 Q (inOrder ops.toList d l) a w → wpAnyH P md ops Q (Fr [] w0) l.length listed a w
  | [], listed, a, w, _, hB, _, h => by
    refine wpAnyH_done ?_ h _
    simpa [fB] using hB
  | (true, k) :: l, listed, a, w, hl, hB, hS, h => by
    have hk : k < ops.size := hl _ List.mem_cons_self
    have h0 : ops[k]? = some (ops.toList.getD k d) := by simp [hk]
    simp only [fB, Bool.and_eq_true] at hB
    obtain ⟨v, hy, h⟩ := h
    exact wpAnyH_take h0 hs hB.1.1 hB.1.2 (fun c a w => hQ c _ _ w) hy hS (wpAnyH_F hs hQ d l _ _ w (fun p hp => hl p (List.mem_cons_of_mem _ hp)) hB.2 hS h)
  | (false, k) :: l, listed, a, w, hl, hB, hS, h => by
    have hk : k < ops.size := hl _ List.mem_cons_self
    have h0 : ops[k]? = some (ops.toList.getD k d) := by simp [hk]
    simp only [fB, Bool.and_eq_true, decide_eq_true_eq] at hB
    refine wpAnyH_all hB.1 (by simp) fun i hi => ?_
    obtain rfl : i = k := by simpa using hi
    refine wpOp_step h0 fun K' hK => ?_
    replace h : wpF P ops w0 Q ((false, ops.toList.getD i d) :: inOrder ops.toList d l) a w := h
    unfold wpF at h
    split at h
    · rename_i hw
      rw [if_pos hw]
      exact Oper.wp_mono (fun a w h => hK _ _ ⟨h.1, wpAnyH_F hs hQ d l _ a w (fun p hp => hl p (List.mem_cons_of_mem _ hp)) hB.2 h.1 h.2⟩) h
    · rename_i hw
      rw [if_neg hw]
      exact hK _ _ ⟨hS, wpAnyH_F hs hQ d l _ _ w (fun p hp => hl p (List.mem_cons_of_mem _ hp)) hB.2 hS h⟩
theorem wp_region_F {id : Nat} {a : Act} {w : World} {o : Oper} {l : List Oper} (order : List (Bool × Nat)) (hm : P.follows .mixedOrders = true)
    (hB : (Region.noSelect (o :: l).toArray && decide (order.length = (o :: l).length) && order.all (fun p => decide (p.2 < (o :: l).length)) && fB .any (o :: l).toArray order (Array.replicate (o :: l).length false)) = true)
    (h : wpF P (o :: l).toArray w.drew (noPan Q) (inOrder (o :: l) o order) a w.drew) : (Code.region id (o :: l).toArray true).wp P Q a w := by
  refine Code.wp_mono noPan_imp ?_
  simp only [Bool.and_eq_true, decide_eq_true_eq, List.all_eq_true] at hB
  obtain ⟨⟨⟨hs, ht⟩, hk⟩, hB⟩ := hB
  refine wp_region_held (S := Fr [] w.drew) hm ?_
  have := wpAnyH_F (P := P) (Q := noPan Q) (md := .any) (w0 := w.drew) hs (fun _ _ _ _ h => h) o order (Array.replicate (o :: l).length false) a w.drew (fun p hp => by simpa using hk p hp) hB (Fr.refl _ _) h
  have hlen : order.length = (o :: l).toArray.size := by simp [ht]
  rw [hlen] at this
  exact this
variable {a : Act} {w : World} {rest : List (Bool × Oper)} {o : Oper}
theorem wpF_end (h : Q .normal a w) : wpF P ops w0 (noPan Q) [] a w := h
/-- what yields in whatever world -/
theorem wpF_pure (h : ∀ K : Act → Prop, (∀ a, wpF P ops w0 Q rest a w → K a) → if Region.wanted o (yielded ops a.tmps) then ∃ v, (∀ w, (execOp a.eval o).run P w = .ok (.value v) w) ∧ K (a.put o.dst v) else K (a.put o.dst undef)) :
    wpF P ops w0 Q ((true, o) :: rest) a w := by
  have := h (fun a => wpF P ops w0 Q rest a w) (fun _ h => h)
  by_cases hw : Region.wanted o (yielded ops a.tmps) = true
  · rw [if_pos hw] at this
    obtain ⟨v, h1, h2⟩ := this
    exact ⟨v, .inl ⟨hw, fun w _ => h1 w⟩, h2⟩
  · rw [if_neg hw] at this
    exact ⟨undef, .inr ⟨by simpa using hw, rfl⟩, this⟩
/-- what yields in every world that has grown from the first one -/
theorem wpF_val (v : Value) (hw : Region.wanted o (yielded ops a.tmps) = true) (hr : ∀ W, Fr [] w0 W → (execOp a.eval o).run P W = .ok (.value v) W) (h : wpF P ops w0 Q rest (a.put o.dst v) w) : wpF P ops w0 Q ((true, o) :: rest) a w :=
  ⟨v, .inl ⟨hw, hr⟩, h⟩
theorem wpF_off (hw : Region.wanted o (yielded ops a.tmps) = false) (h : wpF P ops w0 Q rest (a.put o.dst undef) w) : wpF P ops w0 Q ((true, o) :: rest) a w :=
  ⟨undef, .inr ⟨hw, rfl⟩, h⟩
/-- a call -/
theorem wpF_one (h : ∀ K : Act → World → Prop, (∀ a w, Fr [] w0 w → wpF P ops w0 Q rest a w → K a w) → if Region.wanted o (yielded ops a.tmps) then o.wp P a w K Q else wpF P ops w0 Q rest (a.put o.dst undef) w) : wpF P ops w0 Q ((false, o) :: rest) a w := by
  have := h (fun a w => Fr [] w0 w ∧ wpF P ops w0 Q rest a w) (fun _ _ h1 h2 => ⟨h1, h2⟩)
  unfold wpF
  exact this
end
end Go.Proofs.YtilhbjjjmdnjmaaGreat

namespace Go.Proofs.YtilhbjjjmdnjmaaGreat
open Go
section
variable {P : Program} {ops : Array Oper} {Q : Exit → Act → World → Prop}
/-- Q, and no panic, and nothing outgrown -/
def noEnd (Q : Exit → Act → World → Prop) : Exit → Act → World → Prop
  | .panic _, _, _ => False
  | .outgrown, _, _ => False
  | e, a, w => Q e a w
def plainOps (ops : Array Oper) : Bool := ops.all fun o => match o.op with | .defer _ => false | _ => true
theorem rowsIn_round {lp n : Nat} {row : String} {args : Array Value} {w : World} {R : Value → World → Prop} (h : Rows P row args w R) : RowsIn (Fence.wide.inRound lp) n P row args w R :=
  fun c cs _ => let ⟨v, w', r, s⟩ := h c cs; ⟨v, w', r, (stepsIn_wide (P := P)).2 s⟩
theorem operIn_round {lp : Nat} {o : Oper} {a : Act} {w : World} {K K' : Act → World → Prop} (hd : ∀ c, o.op ≠ .defer c) (hK : ∀ a w, K a w → K' a w) (h : o.wp P a w K (noEnd Q)) : o.wpIn (Fence.wide.inRound lp) 0 P a w K' Q := by
  unfold Oper.wp at h
  unfold Oper.wpIn
  refine ⟨fun _ _ => trivial, ?_⟩
  rw [Fence.inRound_round, Oper.semAt_some lp _ _ hd]
  generalize (execOp a.eval o).run P w = r at *
  cases r with
  | ok x w' =>
    cases x <;> simp only [Oper.upon] at h <;> simp only [Oper.uponIn]
    case value => exact hK _ _ h
    case skip => exact hK _ _ h
    case defer => exact hK _ _ h
    case enter f args =>
      refine ⟨fun hh => (by cases hh), (CallsIn.inRound lp (callsIn_wide.2 h)).mono ?_⟩
      rintro e w'' he
      cases e with
      | returned v => exact hK _ _ he
      | panicked c => exact (he : False).elim
      | outgrown => obtain ⟨_, _, hf⟩ := he; exact (hf : False).elim
    case row row args => exact ⟨fun hh => (by cases hh), (rowsIn_round h).mono fun v w'' he => hK _ _ he⟩
  | halt x w' =>
    cases x <;> simp only [Oper.upon] at h <;> simp only [Oper.uponIn]
    case panic => exact (h : False).elim
theorem anyIn_round {lp : Nat} {md : Region.Mode} (hp : plainOps ops = true) : ∀ (fuel : Nat) (listed : Array Bool) (a : Act) (w : World), wpAny P md ops (noEnd Q) fuel listed a w → wpAnyIn (Fence.wide.inRound lp) 0 P md ops Q fuel listed a w
  | 0, _, _, _, h => h
  | fuel + 1, listed, a, w, h => by
    refine ⟨h.1, fun i hi => ?_⟩
    have h1 := h.2 i hi
    unfold wpOp at h1
    unfold wpOpIn
    cases ho : ops[i]? with
    | none =>
      simp only [ho] at h1
      exact anyIn_round hp fuel _ _ _ h1
    | some o =>
      simp only [ho] at h1
      have hd : ∀ c, o.op ≠ .defer c := by
        intro c hc
        unfold plainOps at hp
        rw [Array.all_eq_true] at hp
        obtain ⟨hlt, hget⟩ := Array.getElem?_eq_some_iff.1 ho
        have := hp i hlt
        rw [hget, hc] at this
        cases this
      simp only
      split
      · rename_i hw
        rw [if_pos hw] at h1
        rcases h1 with h1 | ⟨_, _, _, hf⟩
        · exact operIn_round hd (fun a w h => anyIn_round hp fuel _ a w h) h1
        · exact (hf : False).elim
      · rename_i hw
        rw [if_neg hw] at h1
        exact ⟨fun _ _ => trivial, anyIn_round hp fuel _ _ _ h1⟩
theorem wpIn_region_F {lp id : Nat} {a : Act} {w : World} {o : Oper} {l : List Oper} (order : List (Bool × Nat)) (hm : P.follows .mixedOrders = true)
    (hB : (plainOps (o :: l).toArray && (Region.noSelect (o :: l).toArray && decide (order.length = (o :: l).length) && order.all (fun p => decide (p.2 < (o :: l).length)) && fB .any (o :: l).toArray order (Array.replicate (o :: l).length false))) = true)
    (h : wpF P (o :: l).toArray w.drew (noEnd Q) (inOrder (o :: l) o order) a w.drew) : (Code.region id (o :: l).toArray true).wpIn (Fence.wide.inRound lp) 0 P Q a w := by
  simp only [Bool.and_eq_true, decide_eq_true_eq, List.all_eq_true] at hB
  obtain ⟨hp, ⟨⟨hs, ht⟩, hk⟩, hB⟩ := hB
  refine wpIn_region_any hm ?_
  have := wpAnyH_F (P := P) (Q := noEnd Q) (md := .any) (w0 := w.drew) hs (fun _ _ _ _ h => h) o order (Array.replicate (o :: l).length false) a w.drew (fun p hp => by simpa using hk p hp) hB (Fr.refl _ _) h
  have hlen : order.length = (o :: l).toArray.size := by simp [ht]
  rw [hlen] at this
  exact anyIn_round hp _ _ _ _ (wpAny_of_held _ _ _ _ this)
theorem wpF_endIn {a : Act} {w w0 : World} (h : Q .normal a w) : wpF P ops w0 (noEnd Q) [] a w := h
end
end Go.Proofs.YtilhbjjjmdnjmaaGreat

namespace Go.Proofs.YtilhbjjjmdnjmaaGreat
open Go
section
variable {P : Program} {ops : Array Oper} {Q : Exit → Act → World → Prop} {S : World → Prop}
/-- 'true': it yields in every world of S; 'false': it comes up alone, and leaves such a world -/
def wpG (P : Program) (ops : Array Oper) (S : World → Prop) (Q : Exit → Act → World → Prop) : List (Bool × Oper) → Act → World → Prop
  | [], a, w => Q .normal a w
  | (true, o) :: rest, a, w => ∃ v, YieldsIf P ops S o v a ∧ wpG P ops S Q rest (a.put o.dst v) w
  | (false, o) :: rest, a, w => if Region.wanted o (yielded ops a.tmps) then o.wp P a w (fun a' w' => ∃ S' : World → Prop, (∀ X, S' X → S X) ∧ S' w' ∧ wpG P ops S' Q rest a' w') Q else wpG P ops S Q rest (a.put o.dst undef) w
theorem anyH_S {md : Region.Mode} {S' : World → Prop} (hS : ∀ X, S' X → S X) : ∀ (n : Nat) (listed : Array Bool) (a : Act) (w : World), wpAnyH P md ops Q S' n listed a w → wpAnyH P md ops Q S n listed a w
  | 0, _, _, _, h => h
  | n + 1, _, _, _, h => ⟨h.1, fun i hi => wpOp_mono (fun a' w' h' => ⟨hS _ h'.1, anyH_S hS n _ a' w' h'.2⟩) (h.2 i hi)⟩
theorem wpAnyH_G {md : Region.Mode} (hs : Region.noSelect ops = true) (hQ : ∀ c a a' w, Q (.panic c) a w → Q (.panic c) a' w) (d : Oper) : ∀ (l : List (Bool × Nat)) (S : World → Prop) (listed : Array Bool) (a : Act) (w : World), (∀ p ∈ l, p.2 < ops.size) →
    fB md ops l listed = true → S w → wpG P ops S Q (inOrder ops.toList d l) a w → wpAnyH P md ops Q S l.length listed a w
  | [], S, listed, a, w, _, hB, _, h => by
    refine wpAnyH_done ?_ h _
    simpa [fB] using hB
  | (true, k) :: l, S, listed, a, w, hl, hB, hS, h => by
    have hk : k < ops.size := hl _ List.mem_cons_self
    have h0 : ops[k]? = some (ops.toList.getD k d) := by simp [hk]
    simp only [fB, Bool.and_eq_true] at hB
    obtain ⟨v, hy, h⟩ := h
    exact wpAnyH_take h0 hs hB.1.1 hB.1.2 (fun c a w => hQ c _ _ w) hy hS (wpAnyH_G hs hQ d l S _ _ w (fun p hp => hl p (List.mem_cons_of_mem _ hp)) hB.2 hS h)
  | (false, k) :: l, S, listed, a, w, hl, hB, hS, h => by
    have hk : k < ops.size := hl _ List.mem_cons_self
    have h0 : ops[k]? = some (ops.toList.getD k d) := by simp [hk]
    simp only [fB, Bool.and_eq_true, decide_eq_true_eq] at hB
    refine wpAnyH_all hB.1 (by simp) fun i hi => ?_
    obtain rfl : i = k := by simpa using hi
    refine wpOp_step h0 fun K' hK => ?_
    replace h : wpG P ops S Q ((false, ops.toList.getD i d) :: inOrder ops.toList d l) a w := h
    unfold wpG at h
    split at h
    · rename_i hw
      rw [if_pos hw]
      exact Oper.wp_mono (fun a w h => let ⟨S', h1, h2, h3⟩ := h; hK _ _ ⟨h1 _ h2, anyH_S h1 _ _ _ _ (wpAnyH_G hs hQ d l S' _ a w (fun p hp => hl p (List.mem_cons_of_mem _ hp)) hB.2 h2 h3)⟩) h
    · rename_i hw
      rw [if_neg hw]
      exact hK _ _ ⟨hS, wpAnyH_G hs hQ d l S _ _ w (fun p hp => hl p (List.mem_cons_of_mem _ hp)) hB.2 hS h⟩
/-- what is asked of the region's text -/
def gB (ops : Array Oper) (order : List (Bool × Nat)) : Bool :=
  plainOps ops && (Region.noSelect ops && decide (order.length = ops.size) && order.all (fun p => decide (p.2 < ops.size)) && fB .any ops order (Array.replicate ops.size false))
theorem wpAny_G {o : Oper} {l : List Oper} {a : Act} {w : World} (order : List (Bool × Nat)) (hB : gB (o :: l).toArray order = true) (hS : S w.drew) (h : wpG P (o :: l).toArray S (noEnd Q) (inOrder (o :: l) o order) a w.drew) :
    wpAny P .any (o :: l).toArray (noEnd Q) (o :: l).toArray.size (Array.replicate (o :: l).toArray.size false) a w.drew := by
  simp only [gB, Bool.and_eq_true, decide_eq_true_eq, List.all_eq_true] at hB
  obtain ⟨_, ⟨⟨hs, ht⟩, hk⟩, hB⟩ := hB
  have := wpAnyH_G (P := P) (Q := noEnd Q) (md := .any) hs (fun _ _ _ _ h => h) o order S (Array.replicate (o :: l).toArray.size false) a w.drew (fun p hp => hk p hp) hB hS h
  rw [ht] at this
  exact wpAny_of_held _ _ _ _ this
theorem noEnd_imp (e : Exit) (a : Act) (w : World) (h : noEnd Q e a w) : Q e a w := by
  cases e <;> first | exact h | exact (h : False).elim
theorem wp_region_G {id : Nat} {a : Act} {w : World} {o : Oper} {l : List Oper} (S : World → Prop) (order : List (Bool × Nat)) (hm : P.follows .mixedOrders = true) (hB : gB (o :: l).toArray order = true) (hS : S w.drew)
    (h : wpG P (o :: l).toArray S (noEnd Q) (inOrder (o :: l) o order) a w.drew) : (Code.region id (o :: l).toArray true).wp P Q a w :=
  Code.wp_mono noEnd_imp (wp_region_any hm (wpAny_G order hB hS h))
theorem wpIn_region_G {lp id : Nat} {a : Act} {w : World} {o : Oper} {l : List Oper} (S : World → Prop) (order : List (Bool × Nat)) (hm : P.follows .mixedOrders = true) (hB : gB (o :: l).toArray order = true) (hS : S w.drew)
    (h : wpG P (o :: l).toArray S (noEnd Q) (inOrder (o :: l) o order) a w.drew) : (Code.region id (o :: l).toArray true).wpIn (Fence.wide.inRound lp) 0 P Q a w := by
  have hp : plainOps (o :: l).toArray = true := by simp only [gB, Bool.and_eq_true] at hB; exact hB.1
  exact wpIn_region_any hm (anyIn_round hp _ _ _ _ (wpAny_G order hB hS h))
variable {a : Act} {w : World} {rest : List (Bool × Oper)} {o : Oper}
theorem wpG_end (h : Q .normal a w) : wpG P ops S (noEnd Q) [] a w := h
/-- what yields in whatever world -/
theorem wpG_pure (h : ∀ K : Act → Prop, (∀ a, wpG P ops S Q rest a w → K a) → if Region.wanted o (yielded ops a.tmps) then ∃ v, (∀ w, (execOp a.eval o).run P w = .ok (.value v) w) ∧ K (a.put o.dst v) else K (a.put o.dst undef)) :
    wpG P ops S Q ((true, o) :: rest) a w := by
  have := h (fun a => wpG P ops S Q rest a w) (fun _ h => h)
  by_cases hw : Region.wanted o (yielded ops a.tmps) = true
  · rw [if_pos hw] at this
    obtain ⟨v, h1, h2⟩ := this
    exact ⟨v, .inl ⟨hw, fun w _ => h1 w⟩, h2⟩
  · rw [if_neg hw] at this
    exact ⟨undef, .inr ⟨by simpa using hw, rfl⟩, this⟩
/-- what yields in every world of S -/
theorem wpG_val (v : Value) (hw : Region.wanted o (yielded ops a.tmps) = true) (hr : ∀ W, S W → (execOp a.eval o).run P W = .ok (.value v) W) (h : wpG P ops S Q rest (a.put o.dst v) w) : wpG P ops S Q ((true, o) :: rest) a w :=
  ⟨v, .inl ⟨hw, hr⟩, h⟩
/-- a call, a store; from it on the condition may be a narrower one -/
theorem wpG_oneS (h : ∀ K : Act → World → Prop, (∀ S' : World → Prop, (∀ X, S' X → S X) → ∀ a w, S' w → wpG P ops S' Q rest a w → K a w) → if Region.wanted o (yielded ops a.tmps) then o.wp P a w K Q else wpG P ops S Q rest (a.put o.dst undef) w) : wpG P ops S Q ((false, o) :: rest) a w := by
  have := h (fun a w => ∃ S' : World → Prop, (∀ X, S' X → S X) ∧ S' w ∧ wpG P ops S' Q rest a w) (fun S' h0 _ _ h1 h2 => ⟨S', h0, h1, h2⟩)
  unfold wpG
  exact this
theorem wpG_one (h : ∀ K : Act → World → Prop, (∀ a w, S w → wpG P ops S Q rest a w → K a w) → if Region.wanted o (yielded ops a.tmps) then o.wp P a w K Q else wpG P ops S Q rest (a.put o.dst undef) w) : wpG P ops S Q ((false, o) :: rest) a w :=
  wpG_oneS fun K hK => h K fun a w => hK S (fun _ h => h) a w
end
end Go.Proofs.YtilhbjjjmdnjmaaGreat
