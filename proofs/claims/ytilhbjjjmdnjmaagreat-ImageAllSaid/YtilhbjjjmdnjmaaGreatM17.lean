/-
  A slice of a slice, as a list: no program in sight.
-/
import Derived.Test.YtilhbjjjmdnjmaaGreatM02
namespace Go.Proofs.YtilhbjjjmdnjmaaGreat
open Go.RowKit
/-- where 's[l:]' begins -/
def slAddr (a : Option Addr) (cap l k : Nat) : Option Addr := if cap = l then a else a.map (·.add (l * k))
theorem flatk_drop {α : Type} (f : α → List Value) (k : Nat) (hf : ∀ x, (f x).length = k) : ∀ (l : List α) (i : Nat), (l.flatMap f).drop (i * k) = (l.drop i).flatMap f
  | [], i => by simp
  | x :: l, 0 => by simp
  | x :: l, i + 1 => by
    rw [List.flatMap_cons, List.drop_succ_cons, ← flatk_drop f k hf l i]
    have : (i + 1) * k = (f x).length + i * k := by rw [hf, Nat.add_one_mul]; omega
    rw [this, List.drop_length_add_append]
theorem flatk_take {α : Type} (f : α → List Value) (k : Nat) (hf : ∀ x, (f x).length = k) : ∀ (l : List α) (i : Nat), (l.flatMap f).take (i * k) = (l.take i).flatMap f
  | [], i => by simp
  | x :: l, 0 => by simp
  | x :: l, i + 1 => by
    rw [List.flatMap_cons, List.take_succ_cons, List.flatMap_cons, ← flatk_take f k hf l i]
    have : (i + 1) * k = (f x).length + i * k := by rw [hf, Nat.add_one_mul]; omega
    rw [this, List.take_length_add_append]
theorem SlF.from {α : Type} {f : α → List Value} {w : World} {a : Option Addr} {n cap : Nat} {l : List α} (k : Nat) (hf : ∀ x, (f x).length = k) (h : SlF f w (.slice a n cap) l) {m : Nat} (hm : m ≤ n) :
    SlF f w (.slice (slAddr a cap m k) (n - m) (cap - m)) (l.drop m) := by
  obtain ⟨a', cap', hv, h1, h2, hc⟩ := h
  cases hv
  refine ⟨_, cap - m, by rw [List.length_drop], by rw [List.length_drop]; omega, by omega, ?_⟩
  rw [← flatk_drop f k hf]
  rcases hc with he | ⟨b, off, rfl, hb, hc⟩
  · exact .inl (by rw [he]; simp)
  · by_cases hcm : cap = m
    · refine .inl ?_
      rw [flatk_drop f k hf, List.drop_eq_nil_of_le (by omega)]
      rfl
    · refine .inr ⟨b, off + m * k, ?_, hb, fun j u hu => ?_⟩
      · simp [slAddr, hcm, Addr.add]
      · rw [List.getElem?_drop] at hu
        rw [Nat.add_assoc]
        exact hc _ u hu
theorem SlF.to {α : Type} {f : α → List Value} {w : World} {a : Option Addr} {n cap : Nat} {l : List α} (k : Nat) (hf : ∀ x, (f x).length = k) (h : SlF f w (.slice a n cap) l) {m : Nat} (hm : m ≤ n) :
    SlF f w (.slice a m cap) (l.take m) := by
  obtain ⟨a', cap', hv, h1, h2, hc⟩ := h
  cases hv
  refine ⟨_, cap, by rw [List.length_take, Nat.min_eq_left hm], by rw [List.length_take]; omega, by omega, ?_⟩
  rw [← flatk_take f k hf]
  rcases hc with he | ⟨b, off, rfl, hb, hc⟩
  · exact .inl (by rw [he]; simp)
  · refine .inr ⟨b, off, rfl, hb, fun j u hu => ?_⟩
    rw [List.getElem?_take] at hu
    split at hu
    · exact hc _ u hu
    · cases hu
section
variable {P : Program} {w : World} (t e : TypeId) (k : Nat) (ht : P.underlying t = some (.slice e)) (hk : (sizeOf e).run P w = .ok k w)
include ht hk
theorem cut_from (a : Option Addr) (n cap l : Nat) (h : l ≤ n) :
    (Instr.sliceAt t (.slice a n cap) (some (.int .i64 (l : Int))) none none).run P w = .ok (.slice (slAddr a cap l k) (n - l) (cap - l)) w := by
  have he : P.elem t = e := by simp [Program.elem, ht]
  have ht' : P.underlying t = some (.slice (P.elem t)) := by rw [he, ht]
  rw [run_sliceAt_slice (h := ht'), run_slice_l (ht := ht') (h0 := by omega) (h1 := by omega), he, hk]
  simp [sliced, slAddr]
theorem cut_to (a : Option Addr) (n cap h : Nat) (h2 : h ≤ cap) :
    (Instr.sliceAt t (.slice a n cap) none (some (.int .i64 (h : Int))) none).run P w = .ok (.slice a h cap) w := by
  have he : P.elem t = e := by simp [Program.elem, ht]
  have ht' : P.underlying t = some (.slice (P.elem t)) := by rw [he, ht]
  rw [run_sliceAt_slice (h := ht'), run_slice_h (ht := ht') (h0 := by omega) (h2 := by omega), he, hk]
  cases a <;> simp [sliced, Addr.add_zero']
theorem cut_lh (a : Option Addr) (n cap l h : Nat) (h1 : l ≤ h) (h2 : h ≤ cap) :
    (Instr.sliceAt t (.slice a n cap) (some (.int .i64 (l : Int))) (some (.int .i64 (h : Int))) none).run P w = .ok (.slice (slAddr a cap l k) (h - l) (cap - l)) w := by
  have he : P.elem t = e := by simp [Program.elem, ht]
  have ht' : P.underlying t = some (.slice (P.elem t)) := by rw [he, ht]
  rw [run_sliceAt_slice (h := ht'), run_slice_lh (ht := ht') (h0 := by omega) (h1 := by omega) (h2 := by omega), he, hk]
  simp [sliced, slAddr]
end
theorem SlF.mid {α : Type} {f : α → List Value} {w : World} {a : Option Addr} {n cap : Nat} {l : List α} (k : Nat) (hf : ∀ x, (f x).length = k) (h : SlF f w (.slice a n cap) l) {m j : Nat} (hj : j ≤ n) (hm : m ≤ j) :
    SlF f w (.slice (slAddr a cap m k) (j - m) (cap - m)) ((l.take j).drop m) := (h.to k hf hj).from k hf hm
end Go.Proofs.YtilhbjjjmdnjmaaGreat
