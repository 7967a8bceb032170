/-
  check.Look's inner function; an append in a drawn region.
-/
import Derived.Test.YtmbbmombhkaeoaaChkJ
import Derived.Test.YtmbbmombhkaeoaaChkF
namespace Go.Proofs.Ytmbbmombhkaeoaa
open Go.RowKit Go.Maps
attribute [local go_sem high] equalSlot0 equalSlotR0

/-- is a slot's Own amiss? -/
def wrongS (c : List Int) (row0 : Bool) (s : Slt) : Bool := if s.2.2 then !(c.getD s.2.1.toNat 0 == 1) else row0 && (c.getD s.2.1.toNat 0 == 1)
set_option maxRecDepth 100000 in
theorem wrong_calls (bl g o cap row H m : Nat) (c : List Int) (p : Int) (r : Bool) (w : World) (B : Blk w bl [.slice (some ⟨g, o, none⟩) m cap] 22) (hc : w.cell? ⟨g, o + H, none⟩ = some (.int .i64 (c.getD H 0))) (hH : H < m) (_ : m ≤ 1048576) :
    Calls Try.prog 23 #[.int .i64 (row : Int), .agg #[.int .i64 p, .int .i64 (H : Int), .bool r], .pointer (some ⟨bl, 0, none⟩)] w fun e w' => e = .returned (.bool (wrongS c (decide (row = 0)) (p, (H : Int), r))) ∧ Fr [] w w' := by
  have hg := World.block_lt_of_cell? w _ hc
  have hfa := (Fr.refl [] w).alloc (.cells #[.int .i64 p, .int .i64 (H : Int), .bool r] 45)
  have c1 := (B.fr0 hfa).cell
  have hca := (World.cell?_of_block (hfa.block g hg (by simp))).trans hc
  unfold wrongS
  simp only [Int.toNat_natCast]
  clear hc
  generalize c.getD H 0 = x at *
  cases r with
  | true =>
    go_enter Try.func23, Try.ntmps23
    go_wp2
    go_ret
    exact ⟨ret_bool (by first | rfl | simp), hfa⟩
  | false =>
    by_cases h0 : row = 0
    · subst h0
      go_enter Try.func23, Try.ntmps23
      go_wp2
      go_ret
      exact ⟨ret_bool (by first | rfl | simp), hfa⟩
    · have h1 : ((row : Int) == 0) = false := by simp; omega
      go_enter Try.func23, Try.ntmps23
      go_wp2
      go_ret
      exact ⟨ret_bool (by first | rfl | simp), hfa⟩
/-! ### an operation of a drawn region by a law on lists -/
def asQ (K : Act → World → Prop) (Q : Exit → Act → World → Prop) : Exit → Act → World → Prop
  | .normal, a, w => K a w
  | e, a, w => Q e a w
theorem wp_of_list {P : Program} {ops : Array Oper} {o : Oper} {a : Act} {w : World} {K : Act → World → Prop} {Q : Exit → Act → World → Prop} (hg : o.guard = none) (hQ : ∀ a w, ¬ Q .outgrown a w) (h : wpList P ops (asQ K Q) [o] a w) : o.wp P a w K Q := by
  have hw : Region.wanted o (yielded ops a.tmps) = true := by simp [Region.wanted, hg]
  unfold wpList at h
  rw [if_pos hw] at h
  rcases h with h | ⟨_, a, w, h⟩
  · exact wp_congrQ (Q1 := asQ K Q) (Q2 := Q) (fun c a w h => h) (fun a w h => h) h
  · exact absurd h (hQ a w)
theorem wpG_list {P : Program} {ops : Array Oper} {S : World → Prop} {Q : Exit → Act → World → Prop} {a : Act} {w : World} {rest : List (Bool × Oper)} {o : Oper} (hg : o.guard = none) (hQ : ∀ a w, ¬ Q .outgrown a w)
    (h : ∀ K : Act → World → Prop, (∀ S' : World → Prop, (∀ X, S' X → S X) → ∀ a w, S' w → wpG P ops S' Q rest a w → K a w) → wpList P ops (asQ K Q) [o] a w) : wpG P ops S Q ((false, o) :: rest) a w := by
  have hw : Region.wanted o (yielded ops a.tmps) = true := by simp [Region.wanted, hg]
  refine wpG_oneS fun K hK => ?_
  rw [if_pos hw]
  exact wp_of_list hg hQ (h K hK)
end Go.Proofs.Ytmbbmombhkaeoaa
