/-
  Rows of texts; from texts to bytes.
-/
import Derived.Test.YtilhbjjjmdnjmaaGreatM03
namespace Go.Proofs.YtilhbjjjmdnjmaaGreat
open Go.RowKit

/-- rows of texts -/
abbrev strC (l : List UInt8) : List Value := [strL l]
abbrev SlT := SlF strC
theorem SlT.at {w : World} {a : Option Addr} {cap n : Nat} {l : List (List UInt8)} (h : SlT w (.slice a n cap) l) {i : Nat} (hi : i < l.length) : ∃ b off, a = some ⟨b, off, none⟩ ∧ b < w.heap.size ∧
    w.cell? ⟨b, off + i, none⟩ = some (strL (l.getD i [])) := by
  obtain ⟨a', cap', hv, _, _, hc⟩ := h.open
  cases hv
  obtain ⟨b, off, rfl, hb, hc⟩ := hc 1 (fun _ => rfl) (by omega) i _ (getD_some [] hi)
  have := hc 0 _ rfl
  rw [Nat.mul_one, Nat.add_zero] at this
  exact ⟨b, off, rfl, hb, this⟩
theorem SlT.cell {w : World} {v : Value} {l : List (List UInt8)} (h : SlT w v l) : ∃ a cap, v = .slice a l.length cap := by
  obtain ⟨a, cap, rfl, _⟩ := h.open
  exact ⟨a, cap, rfl⟩
theorem flat_by (s : List UInt8) : s.flatMap byC = s.map fun b => Value.int .u8 (b.toNat : Int) := by
  induction s with
  | nil => rfl
  | cons x l ih => rw [List.flatMap_cons, ih]; rfl
/-- '[]byte(s)' -/
theorem conv_bytes (s : List UInt8) (w : World) (hs : s.length ≤ maxLen) : ∃ v w', (convert 9 40 (strL s)).run Tryz.prog w = .ok v w' ∧ SlY w' v s ∧ okV v ∧ Fr [] w w' := by
  refine ⟨_, _, run_bytes_of_string w 9 40 5 ⟨s.toArray⟩ Tryz.underlying9 Tryz.underlying40 Tryz.underlying5, ?_, ?_, ?_⟩
  · have hz : (ByteArray.mk s.toArray).size = s.length := size_str s
    refine ⟨some ⟨w.heap.size, 0, none⟩, grownCap w (ByteArray.mk s.toArray).size 0 5, by rw [hz], by rw [← hz]; exact grownCap_ge _ _ _ _, grownCap_le_maxLen _ _ _ _ (by rw [hz]; exact hs), .inr ⟨w.heap.size, 0, rfl, by simp, fun j u hu => ?_⟩⟩
    rw [flat_by, List.getElem?_map] at hu
    obtain ⟨b, hb, rfl⟩ := Option.map_eq_some_iff.1 hu
    obtain ⟨hj, hb⟩ := List.getElem?_eq_some_iff.1 hb
    rw [Nat.zero_add]
    refine (cell_of_row _ w.heap.size j _ _ _ (heap_alloc_new w.drew _)).trans ?_
    rw [bytesRow_at _ _ _ (by simpa using hj)]
    simp [hb]
  · intro n cap h
    cases h
  · exact (Fr.refl [] w).drew.alloc _
end Go.Proofs.YtilhbjjjmdnjmaaGreat
