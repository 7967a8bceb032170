/-
  Two rows are equal just as long as all granules are, in plain Lean.
-/
import Derived.Test.YtfmolbgfhchdkaaSpanB
namespace Go.Proofs.Ytfmolbgfhchdkaa

theorem rows_same {S g : Nat} {l l' : List Bool} (hg : 0 < g) (h1 : l.length = gran S g) (h2 : l'.length = gran S g) : ofE (kindsB S g l S) = ofE (kindsB S g l' S) ↔ l = l' := by
  constructor
  · intro h
    have e1 := (RightE.of (kindsB S g l S)).1
    have e2 := (RightE.of (kindsB S g l' S)).1
    rw [h, e2] at e1
    refine extB (by rw [h1, h2]) fun k hk => ?_
    have hkS : k * g < S := (ceil_lt hg).1 (by rw [h1] at hk; exact hk)
    have k1 := kindsB_getD S g l hkS
    have k2 := kindsB_getD S g l' hkS
    rw [← e1, k2] at k1
    have hd : k * g / g = k := Nat.mul_div_cancel k hg
    unfold isB at k1
    rw [Int.toNat_natCast, hd] at k1
    have hlt : decide (((k * g : Nat) : Int) < (S : Int)) = true := by simp only [decide_eq_true_eq]; omega
    have h0 : decide ((0 : Int) ≤ ((k * g : Nat) : Int)) = true := by simp only [decide_eq_true_eq]; omega
    rw [hlt, h0] at k1
    generalize l.getD k false = p at *
    generalize l'.getD k false = q at *
    cases p <;> cases q <;> simp at k1 ⊢
  · rintro rfl
    rfl
end Go.Proofs.Ytfmolbgfhchdkaa
