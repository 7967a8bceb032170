/-
  One row over another one: over itself; three rows. In plain Lean.
-/
import Derived.Test.YtkammkbjkojfmaaSpOL
namespace Go.Proofs.Ytkammkbjkojfmaa
open Go.RowKit Go.Maps

theorem overN_getD (a b : List Int) {n k : Nat} (h : k < n) : (overN a b n).getD k 0 = overK a b k := by
  unfold overN
  rw [List.getD_eq_getElem?_getD, List.getElem?_map, List.getElem?_range h]
  rfl
theorem over_self (l : List Op3) : overE l l = ofE (kindsE l) := by
  unfold overE
  by_cases h : right l = true
  · rw [if_pos ⟨h, h⟩, kindsE_right h]
    congr 1
    unfold overD
    rw [Nat.max_self]
    apply List.ext_getElem (overN_len _ _ _)
    intro i h1 h2
    have e : overK (flatE l) (flatE l) i = (flatE l).getD i 0 := by rw [overK_eq]; split <;> simp_all
    have g : ∀ (d : List Int) (h : i < d.length), d[i] = d.getD i 0 := fun d h => by rw [List.getD_eq_getElem?_getD, List.getElem?_eq_getElem h]; rfl
    rw [g _ h1, g _ h2, ← e]
    exact overN_getD _ _ h2
  · rw [if_neg (fun h2 => h h2.1), kindsE_not (by simpa using h)]
    rfl
theorem overD_getD (a b : List Int) (k : Nat) : (overD a b).getD k 0 = overK a b k := by
  by_cases h : k < max a.length b.length
  · exact overN_getD a b h
  · rw [getD_out _ (by unfold overD; rw [overN_len]; omega), overK_eq, getD_out a (by omega), getD_out b (by omega)]
    rfl
theorem overD_len (a b : List Int) : (overD a b).length = max a.length b.length := overN_len _ _ _
theorem overD_assoc (a b c : List Int) : overD (overD a b) c = overD a (overD b c) := by
  have hl : (overD (overD a b) c).length = (overD a (overD b c)).length := by simp only [overD_len]; omega
  apply List.ext_getElem hl
  intro i h1 h2
  have g : ∀ (d : List Int) (h : i < d.length), d[i] = d.getD i 0 := fun d h => by rw [List.getD_eq_getElem?_getD, List.getElem?_eq_getElem h]; rfl
  rw [g _ h1, g _ h2, overD_getD, overD_getD, overK_eq, overK_eq, overD_getD, overD_getD, overK_eq, overK_eq]
  by_cases ha : a.getD i 0 = 0
  · rw [if_pos ha, if_pos ha]
  · rw [if_neg ha, if_neg ha, if_neg ha]
theorem right_over {a b : List Op3} (ha : right a = true) (hb : right b = true) : right (overE a b) = true ∧ flatE (overE a b) = overD (flatE a) (flatE b) := by
  have h1 := (right_ok ha).2
  have h2 := (right_ok hb).2
  unfold overE
  rw [if_pos ⟨ha, hb⟩]
  exact ⟨right_ofE (by rw [overD_len]; omega), flat_ofE _⟩
theorem overE_eq {a b : List Op3} (ha : right a = true) (hb : right b = true) : overE a b = ofE (overD (flatE a) (flatE b)) := by
  unfold overE
  rw [if_pos ⟨ha, hb⟩]
theorem over_assoc {a b c : List Op3} (ha : right a = true) (hb : right b = true) (hc : right c = true) : overE (overE a b) c = overE a (overE b c) := by
  have h1 := right_over ha hb
  have h2 := right_over hb hc
  have e1 := overE_eq h1.1 hc
  have e2 := overE_eq ha h2.1
  rw [e1, e2, h1.2, h2.2, overD_assoc]
end Go.Proofs.Ytkammkbjkojfmaa
