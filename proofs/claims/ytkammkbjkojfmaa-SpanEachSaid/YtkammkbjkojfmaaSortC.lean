/-
  slices.Sort, slices.Compact of a row of numbers that is the call's own.
-/
import Derived.Test.YtkammkbjkojfmaaSortL
import Derived.Test.YtkammkbjkojfmaaCut
namespace Go.Proofs.Ytkammkbjkojfmaa
open Go.RowKit Go.Maps Go.Sort

def sortI (l : List Int) : List Int := l.mergeSort fun x y => decide (x ≤ y)
theorem flat_int (l : List Int) : l.flatMap intC = l.map (Value.int .i64) := by
  induction l with
  | nil => rfl
  | cons x l ih => rw [List.flatMap_cons, ih]; rfl
theorem sSort_calls (base : Nat) (v : Value) (l : List Int) (w : World) (hown : w.ownsRow base 3 1 v l.length (l.flatMap intC)) (hl : l.length ≤ 1000000) :
    Calls Try.prog 42 #[v] w fun e w' => e = .returned (.tuple #[]) ∧ w'.ownsRow base 3 1 v (sortI l).length ((sortI l).flatMap intC) ∧ Fr v.ownBlock.toList w w' := by
  have hlen : (sortI l).length = l.length := by unfold sortI; simp
  rw [flat_int] at hown
  rcases hown.2 with ⟨rfl, h0⟩ | ⟨g, cap, cur, rfl, hb, hg, hn, hm, hs, ht⟩
  · have hl0 : l = [] := List.eq_nil_of_length_eq_zero (by omega)
    subst hl0
    refine (AnyM.slices_Sort_int_none laySort none 0 w).mono ?_
    rintro e w' ⟨rfl, rfl⟩
    have e0 : sortI [] = [] := by simp [sortI]
    rw [e0]
    exact ⟨rfl, World.ownsRow_nil _ _ _ _, Fr.refl _ _⟩
  · rw [Nat.mul_one] at ht
    refine (AnyM.slices_Sort_int laySort g 0 cap l w (holds_of_blockI hg ht) (Array.getElem?_eq_some_iff.1 hg).1 (by omega)).mono ?_
    rintro e w' ⟨rfl, n, os, rfl⟩
    refine ⟨rfl, ?_, Fr.of_grown (grownBy_sortedI _)⟩
    rw [hlen, flat_int]
    exact ownsRow_sortedI hlen hb hg hn hm hs
theorem sCompact_calls (base : Nat) (v : Value) (l : List Int) (w : World) (hown : w.ownsRow base 3 1 v l.length (l.flatMap intC)) (hl : l.length ≤ 1000000) :
    Calls Try.prog 44 #[v] w fun e w' => ∃ v', e = .returned v' ∧ SlI w' v' (Lib.compact l) ∧ Fr v.ownBlock.toList w w' ∧ ∀ k, v'.ownBlock = some k → v.ownBlock = some k := by
  rw [flat_int] at hown
  rcases hown.2 with ⟨rfl, h0⟩ | ⟨g, cap, cur, rfl, hb, hg, hn, hm, hs, ht⟩
  · have hl0 : l = [] := List.eq_nil_of_length_eq_zero (by omega)
    subst hl0
    refine (Any.slices_Compact_int_empty layCompact none 0 w).mono ?_
    rintro e w' ⟨rfl, rfl⟩
    exact ⟨_, rfl, Sl.nil _, Fr.refl _ _, fun _ h => h⟩
  · rw [Nat.mul_one] at ht
    refine (Any.slices_Compact_int layCompact g 0 cap l w (holds_of_blockI hg ht) (by omega) hn).mono ?_
    rintro e w' ⟨rfl, q, rfl⟩
    have hcl : (Lib.compact l).length ≤ l.length := by
      unfold Lib.compact Lib.compactUpTo
      rw [List.length_map]
      exact Nat.le_trans (List.length_filter_le _ _) (by simp)
    have hts : (Lib.compact l ++ List.replicate (l.length - (Lib.compact l).length) 0).length = l.length := by simp; omega
    have hown' := ownsRow_sortedI (n := q) (os := #[]) hts hb hg hn hm hs
    rw [grow_empty] at hown'
    have hfr := Fr.of_grown (grownBy_sortedI (w := w) (g := g) (n := q) (os := #[]) (Lib.compact l ++ List.replicate (l.length - (Lib.compact l).length) 0).toArray)
    rw [grow_empty] at hfr
    refine ⟨_, rfl, ?_, hfr, fun k h => h⟩
    have hsl : SlI _ (.slice (some ⟨g, 0, none⟩) l.length cap) (Lib.compact l ++ List.replicate (l.length - (Lib.compact l).length) 0) := SlF.of_owns (base := base) (e := 3) (size := 1) (by rw [hts, flat_int]; exact hown')
    have := SlF.to 1 (fun _ => rfl) hsl (m := (Lib.compact l).length) hcl
    rwa [List.take_left' rfl] at this
end Go.Proofs.Ytkammkbjkojfmaa
