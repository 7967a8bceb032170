/-
  The document's way to a row of extents (ref09.Of), in plain Lean: an extent is laid when its kind ends.
-/
import Derived.Test.YtfmolbgfhchdkaaSpanP
namespace Go.Proofs.Ytfmolbgfhchdkaa

theorem addE_same (L : List Op3) (f n k : Int) : addE (L ++ [(f, n, k)]) k = L ++ [(f, n + 1, k)] := by
  unfold addE
  rw [last_snoc, if_pos ⟨by simp, rfl⟩]
  have : (L ++ [(f, n, k)]).length - 1 = L.length := by simp
  rw [this, List.set_append_right _ _ (Nat.le_refl _)]
  simp
theorem addE_new (L : List Op3) (f n k k' : Int) (h : k ≠ k') : addE (L ++ [(f, n, k)]) k' = L ++ [(f, n, k)] ++ [(f + n, 1, k')] := by
  unfold addE endE
  rw [last_snoc, if_neg (fun h' => h h'.2), if_neg (by simp)]
theorem ofE_succ (ks : List Int) (k : Nat) (hk : k < ks.length) : ofE (ks.take (k + 1)) = addE (ofE (ks.take k)) (ks.getD k 0) := by
  have hg : ks[k] = ks.getD k 0 := by rw [List.getD_eq_getElem?_getD, List.getElem?_eq_getElem hk]; rfl
  rw [List.take_succ_eq_append_getElem hk, hg, ofE_snoc]
/-- what stands when k places have been gone through, the last extent begun at 'from' -/
def midE (ks : List Int) (out : List Op3) (f k : Nat) : Prop := f < k ∧ k ≤ ks.length ∧ ofE (ks.take k) = out ++ [((f : Int), (k : Int) - f, ks.getD f 0)]
theorem midE.start {ks : List Int} (h : 0 < ks.length) : midE ks [] 0 1 := by
  refine ⟨by omega, h, ?_⟩
  have := ofE_succ ks 0 h
  rw [this]
  simp [ofE, addE, endE]
theorem midE.same {ks : List Int} {out : List Op3} {f k : Nat} (h : midE ks out f k) (hk : k < ks.length) (he : ks.getD k 0 = ks.getD f 0) : midE ks out f (k + 1) := by
  obtain ⟨h1, _, h3⟩ := h
  refine ⟨by omega, hk, ?_⟩
  rw [ofE_succ ks k hk, h3, he, addE_same]
  have : (k : Int) - f + 1 = ((k + 1 : Nat) : Int) - f := by omega
  rw [this]
theorem midE.turn {ks : List Int} {out : List Op3} {f k : Nat} (h : midE ks out f k) (hk : k < ks.length) (he : ks.getD k 0 ≠ ks.getD f 0) : midE ks (out ++ [((f : Int), (k : Int) - f, ks.getD f 0)]) k (k + 1) := by
  obtain ⟨h1, _, h3⟩ := h
  refine ⟨by omega, hk, ?_⟩
  rw [ofE_succ ks k hk, h3, addE_new _ _ _ _ _ (fun e => he e.symm)]
  have e1 : (f : Int) + ((k : Int) - f) = (k : Int) := by omega
  have e2 : ((k + 1 : Nat) : Int) - (k : Int) = 1 := by omega
  rw [e1, e2]
theorem midE.done {ks : List Int} {out : List Op3} {f : Nat} (h : midE ks out f ks.length) : out ++ [((f : Int), (ks.length : Int) - f, ks.getD f 0)] = ofE ks := by
  have := h.2.2
  rw [List.take_length] at this
  exact this.symm
end Go.Proofs.Ytfmolbgfhchdkaa
