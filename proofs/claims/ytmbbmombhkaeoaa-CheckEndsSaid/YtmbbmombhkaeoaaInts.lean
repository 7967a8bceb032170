/-
  Rows of numbers. No program in sight.
-/
import Derived.Test.YtmbbmombhkaeoaaSlots
namespace Go.Proofs.Ytmbbmombhkaeoaa
open Go.RowKit

abbrev intC (n : Int) : List Value := [.int .i64 n]
abbrev SlI := SlF intC
theorem SlI.at {w : World} {a : Option Addr} {cap n : Nat} {l : List Int} (h : SlI w (.slice a n cap) l) {i : Nat} (hi : i < l.length) : ∃ b off, a = some ⟨b, off, none⟩ ∧ b < w.heap.size ∧
    w.cell? ⟨b, off + i, none⟩ = some (.int .i64 (l.getD i 0)) := by
  obtain ⟨a', cap', hv, _, _, hc⟩ := h.open
  cases hv
  obtain ⟨b, off, rfl, hb, hc⟩ := hc 1 (fun _ => rfl) (by omega) i _ (getD_some 0 hi)
  have := hc 0 _ rfl
  rw [Nat.mul_one, Nat.add_zero] at this
  exact ⟨b, off, rfl, hb, this⟩
theorem int_one {n : Int} : ∀ u ∈ intC n, u.oneCell' = true := by
  intro u hu
  simp at hu
  subst hu
  rfl
end Go.Proofs.Ytmbbmombhkaeoaa
