/-
  An operation of a drawn region by a law on lists. No program in sight.
-/
import Derived.Test.YtmbbmombhkaeoaaHeldZ
namespace Go.Proofs.Ytmbbmombhkaeoaa
open Go.RowKit
/-! ### an operation of a drawn region by a law on lists -/
def asQ (K : Act → World → Prop) (Q : Exit → Act → World → Prop) : Exit → Act → World → Prop
  | .normal, a, w => K a w
  | e, a, w => Q e a w
theorem wp_of_list {P : Program} {ops : Array Oper} {o : Oper} {a : Act} {w : World} {K : Act → World → Prop} {Q : Exit → Act → World → Prop} (hg : o.guard = none) (hQ : ∀ a w, ¬ Q .outgrown a w) (h : wpList P ops (asQ K Q) [o] a w) : o.wp P a w K Q := by
  have hw : Region.wanted o (yielded ops a.tmps) = true := by simp [Region.wanted, hg]
  unfold wpList at h
  rw [if_pos hw] at h
  rcases h with h | ⟨_, a, w, h⟩
  · exact wp_congrQ (Q1 := asQ K Q) (Q2 := Q) (fun c a w h => h) (fun a w h => h) h
  · exact absurd h (hQ a w)
theorem wpG_list {P : Program} {ops : Array Oper} {S : World → Prop} {Q : Exit → Act → World → Prop} {a : Act} {w : World} {rest : List (Bool × Oper)} {o : Oper} (hg : o.guard = none) (hQ : ∀ a w, ¬ Q .outgrown a w)
    (h : ∀ K : Act → World → Prop, (∀ S' : World → Prop, (∀ X, S' X → S X) → ∀ a w, S' w → wpG P ops S' Q rest a w → K a w) → wpList P ops (asQ K Q) [o] a w) : wpG P ops S Q ((false, o) :: rest) a w := by
  have hw : Region.wanted o (yielded ops a.tmps) = true := by simp [Region.wanted, hg]
  refine wpG_oneS fun K hK => ?_
  rw [if_pos hw]
  exact wp_of_list hg hQ (h K hK)
end Go.Proofs.Ytmbbmombhkaeoaa
