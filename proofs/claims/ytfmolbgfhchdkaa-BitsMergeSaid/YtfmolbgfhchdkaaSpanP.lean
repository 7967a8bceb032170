/-
  What a row of extents is, in plain Lean.
-/
import Derived.Test.YtfmolbgfhchdkaaSpanA
import Derived.Test.YtfmolbgfhchdkaaInts
namespace Go.Proofs.Ytfmolbgfhchdkaa

/-- the kinds of all places -/
def flatE (E : List Op3) : List Int := E.flatMap fun e => List.replicate e.2.1.toNat e.2.2
/-- E lies right, and its places have the kinds d -/
def RightE (E : List Op3) (d : List Int) : Prop := flatE E = d ∧ ∀ i, i < E.length → (E.getD i z3).1 = ((flatE (E.take i)).length : Int) ∧ 1 ≤ (E.getD i z3).2.1
theorem RightE.nil : RightE [] [] := ⟨rfl, fun i h => by simp at h⟩
theorem flatE_snoc (L : List Op3) (x : Op3) : flatE (L ++ [x]) = flatE L ++ List.replicate x.2.1.toNat x.2.2 := by
  unfold flatE
  rw [List.flatMap_append]
  simp
theorem getD_left {L M : List Op3} {i : Nat} (h : i < L.length) : (L ++ M).getD i z3 = L.getD i z3 := by
  rw [List.getD_eq_getElem?_getD, List.getElem?_append_left h, List.getD_eq_getElem?_getD]
theorem getD_right (L : List Op3) (x : Op3) : (L ++ [x]).getD L.length z3 = x := by
  rw [List.getD_eq_getElem?_getD, List.getElem?_append_right (Nat.le_refl _)]
  simp
theorem RightE.snoc {L : List Op3} {x : Op3} {d : List Int} : RightE (L ++ [x]) d ↔ ∃ d', RightE L d' ∧ x.1 = (d'.length : Int) ∧ 1 ≤ x.2.1 ∧ d = d' ++ List.replicate x.2.1.toNat x.2.2 := by
  constructor
  · rintro ⟨h1, h2⟩
    have hx := h2 L.length (by simp)
    rw [getD_right, List.take_left'  rfl] at hx
    refine ⟨flatE L, ⟨rfl, fun i hi => ?_⟩, hx.1, hx.2, by rw [← h1, flatE_snoc]⟩
    have := h2 i (by simp; omega)
    rw [getD_left hi, List.take_append_of_le_length (by omega)] at this
    exact this
  · rintro ⟨d', ⟨h1, h2⟩, hx1, hx2, rfl⟩
    refine ⟨by rw [flatE_snoc, h1], fun i hi => ?_⟩
    by_cases hl : i < L.length
    · rw [getD_left hl, List.take_append_of_le_length (by omega)]
      exact h2 i hl
    · have : i = L.length := by simp at hi; omega
      subst this
      rw [getD_right, List.take_left' rfl, h1]
      exact ⟨hx1, hx2⟩
theorem last_snoc (L : List Op3) (x : Op3) : lastE (L ++ [x]) = x := by
  unfold lastE
  have : (L ++ [x]).length - 1 = L.length := by simp
  rw [this, getD_right]
theorem RightE.add {E : List Op3} {d : List Int} (h : RightE E d) (k : Int) : RightE (addE E k) (d ++ [k]) := by
  rcases List.eq_nil_or_concat E with rfl | ⟨L, x, rfl⟩
  · have hd : d = [] := h.1.symm
    subst hd
    have e : addE [] k = [] ++ [(0, 1, k)] := by unfold addE endE; simp
    rw [e]
    exact RightE.snoc.2 ⟨[], RightE.nil, rfl, by simp, by simp⟩
  · rw [List.concat_eq_append] at h ⊢
    obtain ⟨d', hL, hx1, hx2, rfl⟩ := RightE.snoc.1 h
    unfold addE
    rw [last_snoc]
    by_cases hk : x.2.2 = k
    · rw [if_pos ⟨by simp, hk⟩]
      have e : (L ++ [x]).set ((L ++ [x]).length - 1) (x.1, x.2.1 + 1, x.2.2) = L ++ [(x.1, x.2.1 + 1, x.2.2)] := by
        have : (L ++ [x]).length - 1 = L.length := by simp
        rw [this, List.set_append_right _ _ (Nat.le_refl _)]
        simp
      rw [e]
      refine RightE.snoc.2 ⟨d', hL, hx1, by show 1 ≤ x.2.1 + 1; omega, ?_⟩
      have e2 : (x.2.1 + 1).toNat = x.2.1.toNat + 1 := by omega
      show (d' ++ List.replicate x.2.1.toNat x.2.2) ++ [k] = d' ++ List.replicate (x.2.1 + 1).toNat x.2.2
      rw [e2, List.replicate_succ', ← hk, List.append_assoc]
    · rw [if_neg (fun h => hk h.2)]
      refine RightE.snoc.2 ⟨d' ++ List.replicate x.2.1.toNat x.2.2, RightE.snoc.2 ⟨d', hL, hx1, hx2, rfl⟩, ?_, by simp, by simp⟩
      unfold endE
      rw [if_neg (by simp), last_snoc]
      simp
      omega
theorem RightE.of (ks : List Int) : RightE (ofE ks) ks := by
  have key : ∀ (l : List Int) (E : List Op3) (d : List Int), RightE E d → RightE (l.foldl addE E) (d ++ l) := by
    intro l
    induction l with
    | nil => intro E d h; simpa using h
    | cons k l ih =>
      intro E d h
      have := ih (addE E k) (d ++ [k]) (h.add k)
      simpa using this
  have := key ks [] [] RightE.nil
  simpa [ofE] using this
theorem flat_take_le (E : List Op3) (i : Nat) : (flatE (E.take i)).length ≤ (flatE E).length := by
  have : flatE E = flatE (E.take i) ++ flatE (E.drop i) := by
    unfold flatE
    rw [← List.flatMap_append, List.take_append_drop]
  rw [this, List.length_append]
  omega
theorem flat_step {E : List Op3} {i : Nat} (hi : i < E.length) : flatE (E.take (i + 1)) = flatE (E.take i) ++ List.replicate (E.getD i z3).2.1.toNat (E.getD i z3).2.2 := by
  have hg : E[i] = E.getD i z3 := by rw [List.getD_eq_getElem?_getD, List.getElem?_eq_getElem hi]; rfl
  rw [List.take_succ_eq_append_getElem hi, hg, flatE_snoc]
theorem RightE.small {E : List Op3} {d : List Int} (h : RightE E d) (hd : d.length ≤ 1000000) : smallE E := by
  intro e he
  obtain ⟨i, hi, rfl⟩ := List.getElem_of_mem he
  have hg : E[i] = E.getD i z3 := by rw [List.getD_eq_getElem?_getD, List.getElem?_eq_getElem hi]; rfl
  have h2 := h.2 i hi
  have h3 := flat_take_le E (i + 1)
  rw [flat_step hi, List.length_append, List.length_replicate, h.1] at h3
  rw [hg]
  omega
theorem RightE.len {E : List Op3} {d : List Int} (h : RightE E d) : E.length ≤ d.length := by
  have key : ∀ i, i ≤ E.length → i ≤ (flatE (E.take i)).length := by
    intro i
    induction i with
    | zero => intro _; omega
    | succ i ih =>
      intro hi
      have := ih (by omega)
      have h2 := h.2 i (by omega)
      rw [flat_step (by omega), List.length_append, List.length_replicate]
      omega
  have := key E.length (Nat.le_refl _)
  rw [List.take_length, h.1] at this
  exact this
/-- the kind of a place -/
theorem RightE.kind {E : List Op3} {d : List Int} (h : RightE E d) {i j : Nat} (hi : i < E.length) (hj : (j : Int) < (E.getD i z3).2.1) : d.getD ((flatE (E.take i)).length + j) 0 = (E.getD i z3).2.2 := by
  have h3 : d = (flatE (E.take i) ++ List.replicate (E.getD i z3).2.1.toNat (E.getD i z3).2.2) ++ flatE (E.drop (i + 1)) := by
    rw [← flat_step hi, ← h.1]
    unfold flatE
    rw [← List.flatMap_append, List.take_append_drop]
  rw [h3, List.append_assoc, List.getD_eq_getElem?_getD, List.getElem?_append_right (by omega), Nat.add_sub_cancel_left, List.getElem?_append_left (by rw [List.length_replicate]; omega), List.getElem?_replicate, if_pos (by omega)]
  rfl
end Go.Proofs.Ytfmolbgfhchdkaa
