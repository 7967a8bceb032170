/-
  The reference of layer 10: Set.
-/
import Derived.Test.YtfmolbgfhchdkaaBitR2
namespace Go.Proofs.Ytfmolbgfhchdkaa
open Go.RowKit Go.Maps

/-- as far as s: is one among them? are all? -/
def oneTo (m f n s : Nat) : Bool := decide (max m f < min s (f + n))
def allTo (m f n s : Nat) : Bool := decide (s ≤ m ∨ (f ≤ m ∧ s ≤ f + n))
theorem oneTo_start (m f n : Nat) : oneTo m f n m = false := by simp [oneTo]; omega
theorem allTo_start (m f n : Nat) : allTo m f n m = true := by simp [allTo]
theorem to_in {m f n s : Nat} (hm : m ≤ s) (h1 : f ≤ s) (h2 : s < f + n) : oneTo m f n (s + 1) = true ∧ allTo m f n (s + 1) = allTo m f n s := by
  simp only [oneTo, allTo, decide_eq_true_eq, decide_eq_decide]
  omega
theorem to_out {m f n s : Nat} (hm : m ≤ s) (h : ¬ (f ≤ s ∧ s < f + n)) : oneTo m f n (s + 1) = oneTo m f n s ∧ allTo m f n (s + 1) = false := by
  simp only [oneTo, allTo, decide_eq_false_iff_not, decide_eq_decide]
  omega
theorem to_end {S g f n k s : Nat} (h : s = min (k * g + g) S) (hk : k * g < S) (hg : 0 < g) : oneTo (k * g) f n s = oneB S g f n k ∧ allTo (k * g) f n s = allB S g f n k := by
  subst h
  simp only [oneTo, allTo, oneB, allB]
  constructor
  · trivial
  · rw [Bool.eq_iff_iff]; simp; omega
/-- the row when k granules have been gone through -/
def mixB (R l : List Bool) (k : Nat) : List Bool := (List.range l.length).map fun i => if i < k then R.getD i false else l.getD i false
theorem mixB_len (R l : List Bool) (k : Nat) : (mixB R l k).length = l.length := by simp [mixB]
theorem mixB_getD (R l : List Bool) (k i : Nat) (hi : i < l.length) : (mixB R l k).getD i false = if i < k then R.getD i false else l.getD i false := getD_range l _ hi
theorem mixB_start (R l : List Bool) : mixB R l 0 = l := extB (mixB_len ..) fun i hi => by
  rw [mixB_len] at hi
  rw [mixB_getD _ _ _ _ hi, if_neg (by omega)]
theorem mixB_end {R l : List Bool} (h : R.length = l.length) : mixB R l l.length = R := extB (by rw [mixB_len, h]) fun i hi => by
  rw [mixB_len] at hi
  rw [mixB_getD _ _ _ _ hi, if_pos hi]
theorem mixB_step (R l : List Bool) (k : Nat) (hk : k < l.length) : mixB R l (k + 1) = (mixB R l k).set k (R.getD k false) := extB (by simp [mixB_len]) fun i hi => by
  rw [mixB_len] at hi
  rw [getD_setB _ _ _ _ (by rw [mixB_len]; exact hk), mixB_getD _ _ _ _ hi, mixB_getD _ _ _ _ hi]
  by_cases h1 : i = k
  · subst h1; rw [if_pos rfl, if_pos (by omega)]
  · rw [if_neg h1]
    by_cases h2 : i < k
    · rw [if_pos h2, if_pos (by omega)]
    · rw [if_neg h2, if_neg (by omega)]
theorem mixB_same (R l : List Bool) (k : Nat) (hk : k < l.length) (h : R.getD k false = l.getD k false) : mixB R l (k + 1) = mixB R l k := extB (by simp [mixB_len]) fun i hi => by
  rw [mixB_len] at hi
  rw [mixB_getD _ _ _ _ hi, mixB_getD _ _ _ _ hi]
  by_cases h1 : i = k
  · subst h1; rw [if_pos (by omega), if_neg (by omega), h]
  · by_cases h2 : i < k
    · rw [if_pos h2, if_pos (by omega)]
    · rw [if_neg h2, if_neg (by omega)]
theorem bSet_getD {S g : Nat} {l : List Bool} {f n k : Nat} (hk : k < l.length) : (bSet S g l f n).getD k false = (oneB S g f n k || l.getD k false) := getD_range l _ hk
theorem bClear_getD {S g : Nat} {l : List Bool} {f n k : Nat} (hk : k < l.length) : (bClear S g l f n).getD k false = (!allB S g f n k && l.getD k false) := getD_range l _ hk
end Go.Proofs.Ytfmolbgfhchdkaa
