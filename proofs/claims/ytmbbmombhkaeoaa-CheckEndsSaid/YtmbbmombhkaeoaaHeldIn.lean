/-
  A region that draws its order, inside a round of a range over a function: the walk of XHeld serves there too. No program in sight.
-/
import Derived.Test.YtmbbmombhkaeoaaHeld
import Derived.OrdersIn
import Derived.RangeFuncCalls
import Derived.TacticsIn
namespace Go.Proofs.Ytmbbmombhkaeoaa
open Go
section
variable {P : Program} {ops : Array Oper} {Q : Exit → Act → World → Prop}
/-- Q, and no panic, and nothing outgrown -/
def noEnd (Q : Exit → Act → World → Prop) : Exit → Act → World → Prop
  | .panic _, _, _ => False
  | .outgrown, _, _ => False
  | e, a, w => Q e a w
def plainOps (ops : Array Oper) : Bool := ops.all fun o => match o.op with | .defer _ => false | _ => true
theorem rowsIn_round {lp n : Nat} {row : String} {args : Array Value} {w : World} {R : Value → World → Prop} (h : Rows P row args w R) : RowsIn (Fence.wide.inRound lp) n P row args w R :=
  fun c cs _ => let ⟨v, w', r, s⟩ := h c cs; ⟨v, w', r, (stepsIn_wide (P := P)).2 s⟩
theorem operIn_round {lp : Nat} {o : Oper} {a : Act} {w : World} {K K' : Act → World → Prop} (hd : ∀ c, o.op ≠ .defer c) (hK : ∀ a w, K a w → K' a w) (h : o.wp P a w K (noEnd Q)) : o.wpIn (Fence.wide.inRound lp) 0 P a w K' Q := by
  unfold Oper.wp at h
  unfold Oper.wpIn
  refine ⟨fun _ _ => trivial, ?_⟩
  rw [Fence.inRound_round, Oper.semAt_some lp _ _ hd]
  generalize (execOp a.eval o).run P w = r at *
  cases r with
  | ok x w' =>
    cases x <;> simp only [Oper.upon] at h <;> simp only [Oper.uponIn]
    case value => exact hK _ _ h
    case skip => exact hK _ _ h
    case defer => exact hK _ _ h
    case enter f args =>
      refine ⟨fun hh => (by cases hh), (CallsIn.inRound lp (callsIn_wide.2 h)).mono ?_⟩
      rintro e w'' he
      cases e with
      | returned v => exact hK _ _ he
      | panicked c => exact (he : False).elim
      | outgrown => obtain ⟨_, _, hf⟩ := he; exact (hf : False).elim
    case row row args => exact ⟨fun hh => (by cases hh), (rowsIn_round h).mono fun v w'' he => hK _ _ he⟩
  | halt x w' =>
    cases x <;> simp only [Oper.upon] at h <;> simp only [Oper.uponIn]
    case panic => exact (h : False).elim
theorem anyIn_round {lp : Nat} {md : Region.Mode} (hp : plainOps ops = true) : ∀ (fuel : Nat) (listed : Array Bool) (a : Act) (w : World), wpAny P md ops (noEnd Q) fuel listed a w → wpAnyIn (Fence.wide.inRound lp) 0 P md ops Q fuel listed a w
  | 0, _, _, _, h => h
  | fuel + 1, listed, a, w, h => by
    refine ⟨h.1, fun i hi => ?_⟩
    have h1 := h.2 i hi
    unfold wpOp at h1
    unfold wpOpIn
    cases ho : ops[i]? with
    | none =>
      simp only [ho] at h1
      exact anyIn_round hp fuel _ _ _ h1
    | some o =>
      simp only [ho] at h1
      have hd : ∀ c, o.op ≠ .defer c := by
        intro c hc
        unfold plainOps at hp
        rw [Array.all_eq_true] at hp
        obtain ⟨hlt, hget⟩ := Array.getElem?_eq_some_iff.1 ho
        have := hp i hlt
        rw [hget, hc] at this
        cases this
      simp only
      split
      · rename_i hw
        rw [if_pos hw] at h1
        rcases h1 with h1 | ⟨_, _, _, hf⟩
        · exact operIn_round hd (fun a w h => anyIn_round hp fuel _ a w h) h1
        · exact (hf : False).elim
      · rename_i hw
        rw [if_neg hw] at h1
        exact ⟨fun _ _ => trivial, anyIn_round hp fuel _ _ _ h1⟩
theorem wpIn_region_F {lp id : Nat} {a : Act} {w : World} {o : Oper} {l : List Oper} (order : List (Bool × Nat)) (hm : P.follows .mixedOrders = true)
    (hB : (plainOps (o :: l).toArray && (Region.noSelect (o :: l).toArray && decide (order.length = (o :: l).length) && order.all (fun p => decide (p.2 < (o :: l).length)) && fB .any (o :: l).toArray order (Array.replicate (o :: l).length false))) = true)
    (h : wpF P (o :: l).toArray w.drew (noEnd Q) (inOrder (o :: l) o order) a w.drew) : (Code.region id (o :: l).toArray true).wpIn (Fence.wide.inRound lp) 0 P Q a w := by
  simp only [Bool.and_eq_true, decide_eq_true_eq, List.all_eq_true] at hB
  obtain ⟨hp, ⟨⟨hs, ht⟩, hk⟩, hB⟩ := hB
  refine wpIn_region_any hm ?_
  have := wpAnyH_F (P := P) (Q := noEnd Q) (md := .any) (w0 := w.drew) hs (fun _ _ _ _ h => h) o order (Array.replicate (o :: l).length false) a w.drew (fun p hp => by simpa using hk p hp) hB (Fr.refl _ _) h
  have hlen : order.length = (o :: l).toArray.size := by simp [ht]
  rw [hlen] at this
  exact anyIn_round hp _ _ _ _ (wpAny_of_held _ _ _ _ this)
theorem wpF_endIn {a : Act} {w w0 : World} (h : Q .normal a w) : wpF P ops w0 (noEnd Q) [] a w := h
end
end Go.Proofs.Ytmbbmombhkaeoaa
