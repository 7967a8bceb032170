/-
  Bits as a list of granules: what the calls answer, in plain Lean.
-/
import Derived.Test.YtfmolbgfhchdkaaMem
namespace Go.Proofs.Ytfmolbgfhchdkaa

/-- how many granules there are -/
def gran (S g : Nat) : Nat := (S + g - 1) / g
theorem ceil_lt {X g k : Nat} (hg : 0 < g) : k < (X + g - 1) / g ↔ k * g < X := by
  rw [Nat.lt_div_iff_mul_lt hg]
  omega
theorem div_le {X g k : Nat} (hg : 0 < g) : X / g ≤ k ↔ X < k * g + g := by
  rw [← Nat.lt_succ_iff, Nat.div_lt_iff_lt_mul hg, Nat.succ_mul]
theorem ceil_le {X g k : Nat} (hg : 0 < g) : (X + g - 1) / g ≤ k ↔ X ≤ k * g := by
  have := @ceil_lt X g k hg
  omega
theorem lt_div {X g k : Nat} (hg : 0 < g) : k < X / g ↔ k * g + g ≤ X := by
  have := @div_le X g k hg
  omega
/-- has granule k a sector that is among them? are all its sectors? -/
def oneB (S g f n k : Nat) : Bool := decide (max (k * g) f < min (min (k * g + g) S) (f + n))
def allB (S g f n k : Nat) : Bool := decide (f ≤ k * g) && decide (min (k * g + g) S ≤ f + n)
theorem one_iff {S g f n k : Nat} (hg : 0 < g) (hk : k * g < S) (hin : f + n ≤ S) : oneB S g f n k = true ↔ n ≠ 0 ∧ f / g ≤ k ∧ k < (f + n + g - 1) / g := by
  rw [div_le hg, ceil_lt hg]
  simp only [oneB, decide_eq_true_eq]
  omega
theorem all_iff {S g f n k : Nat} (hg : 0 < g) (hk : k * g < S) (hin : f + n ≤ S) : allB S g f n k = true ↔ (f + g - 1) / g ≤ k ∧ k < (if f + n = S then gran S g else (f + n) / g) := by
  rw [ceil_le hg]
  simp only [allB, Bool.and_eq_true, decide_eq_true_eq]
  split
  · unfold gran
    rw [ceil_lt hg]
    omega
  · rw [lt_div hg]
    omega
/-- where 's' lies -/
theorem gran_at {S g s : Nat} (hg : 0 < g) (hs : s < S) : s / g < gran S g := by
  unfold gran
  rw [ceil_lt hg]
  exact Nat.lt_of_le_of_lt (Nat.div_mul_le_self s g) hs
def bSet (S g : Nat) (l : List Bool) (f n : Nat) : List Bool := (List.range l.length).map fun k => oneB S g f n k || l.getD k false
def bClear (S g : Nat) (l : List Bool) (f n : Nat) : List Bool := (List.range l.length).map fun k => !allB S g f n k && l.getD k false
end Go.Proofs.Ytfmolbgfhchdkaa
