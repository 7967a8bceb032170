/-
  few, own, plain, same: the statements' own helpers.
-/
import Derived.Test.YtilhbjjjmdnjmaaGreatM45
import Derived.StillTailTactics
namespace Go.Proofs.YtilhbjjjmdnjmaaGreat
open Go.RowKit
attribute [local go_sem high] equalSlot0

/-- how many slots, and rows -/
def tot (ls : List (List Slt)) : Nat := (ls.map fun l => l.length + 1).sum
theorem tot_take_succ {ls : List (List Slt)} {k : Nat} (h : k < ls.length) : tot (ls.take (k + 1)) = tot (ls.take k) + ((ls.getD k []).length + 1) := by
  have hg : ls[k] = ls.getD k [] := by rw [List.getD_eq_getElem?_getD, List.getElem?_eq_getElem h]; rfl
  unfold tot
  rw [List.take_succ_eq_append_getElem h, hg, List.map_append, List.sum_append]
  simp
theorem tot_take_le (ls : List (List Slt)) (k : Nat) : tot (ls.take k) ≤ tot ls := by
  conv => rhs; rw [← List.take_append_drop k ls]
  unfold tot
  rw [List.map_append, List.sum_append]
  omega
theorem tot_at {ls : List (List Slt)} {k : Nat} (h : k < ls.length) : (ls.getD k []).length + 1 ≤ tot ls := by
  have := tot_take_succ h
  have := tot_take_le ls (k + 1)
  omega
theorem tot_len : ∀ ls : List (List Slt), ls.length ≤ tot ls
  | [] => Nat.zero_le _
  | l :: ls => by
    have := tot_len ls
    simp only [tot, List.map_cons, List.sum_cons, List.length_cons] at this ⊢
    omega
def fewB (n : List Int) (ls : List (List Slt)) : Bool := decide (n.length ≤ 60) && decide (tot ls ≤ 200)
theorem infoRow : (Tryz.prog.info? 92).map (fun i => (i.zero, i.size, i.bytes)) = some (some (.slice none 0 0), 1, 24) := by kernel_rfl
theorem take_flat_succ {l : List Slt} {k : Nat} (h : k < l.length) : (l.take (k + 1)).flatMap slotC = (l.take k).flatMap slotC ++ slotC (l.getD k zS) := by
  have hg : l[k] = l.getD k zS := by rw [List.getD_eq_getElem?_getD, List.getElem?_eq_getElem h]; rfl
  rw [List.take_succ_eq_append_getElem h, hg, List.flatMap_append]
  simp
end Go.Proofs.YtilhbjjjmdnjmaaGreat

namespace Go.Proofs.YtilhbjjjmdnjmaaGreat
open Go.RowKit
attribute [local go_sem high] equalSlot0

/-- how many of these slots have cluster h -/
def rc1 (m h : Int) (l : List Slt) : Nat := (l.filter fun s => hasS s m && decide (s.2.1 = h)).length
def rc (m h : Int) (ls : List (List Slt)) : Nat := rc1 m h ls.flatten
theorem rc1_le (m h : Int) (l : List Slt) : rc1 m h l ≤ l.length := List.length_filter_le _ _
theorem rc1_append (m h : Int) (l l' : List Slt) : rc1 m h (l ++ l') = rc1 m h l + rc1 m h l' := by simp [rc1]
theorem take_succ_getD {α : Type} {l : List α} (d : α) {k : Nat} (h : k < l.length) : l.take (k + 1) = l.take k ++ [l.getD k d] := by
  have hg : l[k] = l.getD k d := by rw [List.getD_eq_getElem?_getD, List.getElem?_eq_getElem h]; rfl
  rw [List.take_succ_eq_append_getElem h, hg]
theorem rc1_step {m h : Int} {l : List Slt} {j : Nat} (hj : j < l.length) : rc1 m h (l.take (j + 1)) = rc1 m h (l.take j) + if (hasS (l.getD j zS) m && decide ((l.getD j zS).2.1 = h)) = true then 1 else 0 := by
  rw [take_succ_getD zS hj, rc1_append]
  congr 1
  generalize l.getD j zS = s
  unfold rc1
  by_cases hp : (hasS s m && decide (s.2.1 = h)) = true
  · rw [if_pos hp]
    simp only [List.filter_cons, List.filter_nil, hp, if_true]
    rfl
  · rw [if_neg hp]
    simp only [List.filter_cons, List.filter_nil, hp]
    rfl
theorem rc_step {m h : Int} {ls : List (List Slt)} {k : Nat} (hk : k < ls.length) : rc m h (ls.take (k + 1)) = rc m h (ls.take k) + rc1 m h (ls.getD k []) := by
  rw [take_succ_getD [] hk]
  unfold rc
  rw [List.flatten_append, rc1_append]
  simp
theorem flatten_len (ls : List (List Slt)) : ls.flatten.length ≤ tot ls := by
  rw [List.length_flatten]
  unfold tot
  induction ls with
  | nil => exact Nat.le_refl _
  | cons l ls ih => simp only [List.map_cons, List.sum_cons]; omega
theorem rc_le (m h : Int) (ls : List (List Slt)) : rc m h ls ≤ tot ls := Nat.le_trans (rc1_le m h _) (flatten_len ls)
end Go.Proofs.YtilhbjjjmdnjmaaGreat
