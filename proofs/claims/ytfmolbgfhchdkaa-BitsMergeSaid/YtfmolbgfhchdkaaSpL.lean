/-
  Rows of extents in plain Lean: which are right; what is added; a part of one.
-/
import Derived.Test.YtfmolbgfhchdkaaSpanQ
namespace Go.Proofs.Ytfmolbgfhchdkaa

/-- may the row be, from a place on? -/
def rightN : Int → List Op3 → Bool
  | _, [] => true
  | n, x :: l => (decide (x.1 = n) && (decide (1 ≤ x.2.1) && decide (x.2.1 ≤ 65536 - n))) && rightN (n + x.2.1) l
def right (l : List Op3) : Bool := rightN 0 l
/-- the kinds of all places -/
def kindsE (l : List Op3) : List Int := if right l = true then flatE l else []
theorem drop_getD {α : Type} (d : α) {l : List α} {k : Nat} (h : k < l.length) : l.drop k = l.getD k d :: l.drop (k + 1) := by
  rw [List.drop_eq_getElem_cons h, List.getD_eq_getElem?_getD, List.getElem?_eq_getElem h]
  rfl
theorem rightN_step {n : Int} {l : List Op3} {k : Nat} (h : k < l.length) : rightN n (l.drop k) = ((decide ((l.getD k z3).1 = n) && (decide (1 ≤ (l.getD k z3).2.1) && decide ((l.getD k z3).2.1 ≤ 65536 - n))) && rightN (n + (l.getD k z3).2.1) (l.drop (k + 1))) := by
  rw [drop_getD z3 h, rightN]
theorem rightN_ok : ∀ (l P : List Op3) (d : List Int), RightE P d → d.length ≤ 65536 → rightN d.length l = true → RightE (P ++ l) (d ++ flatE l) ∧ (d ++ flatE l).length ≤ 65536
  | [], P, d, h, hd, _ => by simpa [flatE] using And.intro h hd
  | x :: l, P, d, h, hd, hr => by
    simp only [rightN, Bool.and_eq_true, decide_eq_true_eq] at hr
    obtain ⟨⟨h1, h2, h3⟩, hr⟩ := hr
    have hs : RightE (P ++ [x]) (d ++ List.replicate x.2.1.toNat x.2.2) := RightE.snoc.2 ⟨d, h, h1, h2, rfl⟩
    have hl : (d ++ List.replicate x.2.1.toNat x.2.2).length = d.length + x.2.1.toNat := by simp
    have := rightN_ok l (P ++ [x]) _ hs (by rw [hl]; omega) (by rw [hl, show ((d.length + x.2.1.toNat : Nat) : Int) = d.length + x.2.1 by omega]; exact hr)
    have e : d ++ flatE (x :: l) = (d ++ List.replicate x.2.1.toNat x.2.2) ++ flatE l := by
      rw [show flatE (x :: l) = List.replicate x.2.1.toNat x.2.2 ++ flatE l from rfl, List.append_assoc]
    rw [e, show P ++ x :: l = (P ++ [x]) ++ l by simp]
    exact this
theorem right_ok {l : List Op3} (h : right l = true) : RightE l (flatE l) ∧ (flatE l).length ≤ 65536 := by
  have := rightN_ok l [] [] RightE.nil (by simp) h
  simpa using this
theorem RightE.right {E : List Op3} {d : List Int} (h : RightE E d) (hd : d.length ≤ 65536) : Proofs.Ytfmolbgfhchdkaa.right E = true := by
  have key : ∀ m k, k + m = E.length → rightN ((flatE (E.take k)).length : Int) (E.drop k) = true := by
    intro m
    induction m with
    | zero => intro k hk; rw [List.drop_eq_nil_of_le (by omega)]; rfl
    | succ m ih =>
      intro k hk
      have hlt : k < E.length := by omega
      have h2 := h.2 k hlt
      have h3 := ih (k + 1) (by omega)
      have h4 := flat_take_le E (k + 1)
      rw [h.1] at h4
      rw [flat_step hlt, List.length_append, List.length_replicate] at h3 h4
      rw [rightN_step hlt]
      simp only [Bool.and_eq_true, decide_eq_true_eq]
      refine ⟨⟨h2.1, h2.2, by omega⟩, ?_⟩
      rw [show (((flatE (E.take k)).length + (E.getD k z3).2.1.toNat : Nat) : Int) = (flatE (E.take k)).length + (E.getD k z3).2.1 by omega] at h3
      exact h3
  have := key E.length 0 (by omega)
  simpa [Proofs.Ytfmolbgfhchdkaa.right, flatE] using this
theorem right_ofE {d : List Int} (hd : d.length ≤ 65536) : right (ofE d) = true := (RightE.of d).right hd
theorem flat_ofE (d : List Int) : flatE (ofE d) = d := (RightE.of d).1
theorem kinds_ofE {d : List Int} (hd : d.length ≤ 65536) : kindsE (ofE d) = d := by unfold kindsE; rw [if_pos (right_ofE hd), flat_ofE]
theorem kindsE_right {l : List Op3} (h : right l = true) : kindsE l = flatE l := if_pos h
theorem kindsE_not {l : List Op3} (h : right l = false) : kindsE l = [] := by unfold kindsE; rw [h]; rfl
theorem kindsE_le (l : List Op3) : (kindsE l).length ≤ 65536 := by
  unfold kindsE
  split
  · rename_i h; exact (right_ok h).2
  · simp
theorem RightE.end {E : List Op3} {d : List Int} (h : RightE E d) : endE E = d.length := by
  rcases List.eq_nil_or_concat E with rfl | ⟨L, x, rfl⟩
  · have hd : d = [] := h.1.symm
    subst hd
    rfl
  · rw [List.concat_eq_append] at h ⊢
    obtain ⟨d', _, hx1, hx2, rfl⟩ := RightE.snoc.1 h
    unfold endE
    rw [if_neg (by simp), last_snoc, List.length_append, List.length_replicate]
    omega
/-- so many places of a kind more -/
def addN (E : List Op3) (m k : Int) : List Op3 := if E.length ≠ 0 ∧ (lastE E).2.2 = k then E.set (E.length - 1) ((lastE E).1, (lastE E).2.1 + m, (lastE E).2.2) else E ++ [(endE E, m, k)]
theorem addN_step (E : List Op3) (m k : Int) : addE (addN E m k) k = addN E (m + 1) k := by
  unfold addN
  by_cases h : E.length ≠ 0 ∧ (lastE E).2.2 = k
  · rw [if_pos h, if_pos h]
    rcases List.eq_nil_or_concat E with rfl | ⟨L, x, rfl⟩
    · exact absurd rfl h.1
    · rw [List.concat_eq_append] at h ⊢
      have hk := h.2
      rw [last_snoc] at hk ⊢
      have e1 : (L ++ [x]).length - 1 = L.length := by simp
      have e2 : ∀ y : Op3, (L ++ [x]).set L.length y = L ++ [y] := fun y => by rw [List.set_append_right _ _ (Nat.le_refl _)]; simp
      rw [e1, e2, e2, hk, addE_same, Int.add_assoc]
  · rw [if_neg h, if_neg h, addE_same]
theorem addN_ofE (d : List Int) (k : Int) : ∀ m : Nat, addN (ofE d) ((m + 1 : Nat) : Int) k = ofE (d ++ List.replicate (m + 1) k)
  | 0 => by
    rw [show List.replicate (0 + 1) k = [k] from rfl, ofE_snoc]
    rfl
  | m + 1 => by
    rw [List.replicate_succ', ← List.append_assoc, ofE_snoc, ← addN_ofE d k m, addN_step]
    rfl
theorem ofE_len (d : List Int) : (ofE d).length ≤ d.length := (RightE.of d).len
/-! ### a part -/
theorem cut_step (P : List Int) (q : Nat) (r : Int) (f T : Nat) (h : f ≤ T) : ((P ++ List.replicate q r).take T).drop f = (P.take T).drop f ++ List.replicate (min ((P.length : Int) + q) T - max (P.length : Int) f).toNat r := by
  rw [List.take_append, List.take_replicate, List.drop_append, List.drop_replicate, List.length_take]
  congr 2
  omega
def cutE (l : List Op3) (f n : Int) : List Op3 := if right l = true ∧ 1 ≤ n ∧ 0 ≤ f ∧ n ≤ (flatE l).length ∧ f ≤ (flatE l).length - n then ofE (((flatE l).drop f.toNat).take n.toNat) else []
theorem take_drop_eq (d : List Int) (f n : Nat) : (d.take (f + n)).drop f = (d.drop f).take n := by rw [List.drop_take]; congr 1; omega
theorem norm_eq (l : List Op3) : cutE l 0 (kindsE l).length = ofE (kindsE l) := by
  unfold cutE
  by_cases h : right l = true
  · rw [kindsE_right h]
    by_cases h0 : (flatE l).length = 0
    · rw [if_neg (fun h' => by omega)]
      have : flatE l = [] := List.eq_nil_of_length_eq_zero h0
      rw [this]
      rfl
    · rw [if_pos ⟨h, by omega, by omega, by omega, by omega⟩]
      simp
  · rw [if_neg (fun h' => h h'.1), kindsE_not (by simpa using h)]
    rfl
/-- adjacent extents of a normal row are of other kinds -/
def adjE (E : List Op3) : Prop := ∀ i, i + 1 < E.length → (E.getD (i + 1) z3).2.2 ≠ (E.getD i z3).2.2
theorem adjE_snoc {L : List Op3} {x : Op3} : adjE (L ++ [x]) ↔ adjE L ∧ (L.length ≠ 0 → x.2.2 ≠ (lastE L).2.2) := by
  constructor
  · intro h
    refine ⟨fun i hi => ?_, fun h0 => ?_⟩
    · have := h i (by simp; omega)
      rwa [getD_left hi, getD_left (by omega)] at this
    · have := h (L.length - 1) (by simp; omega)
      rw [show L.length - 1 + 1 = L.length by omega, getD_right, getD_left (by omega)] at this
      exact this
  · rintro ⟨h1, h2⟩ i hi
    by_cases hl : i + 1 < L.length
    · rw [getD_left hl, getD_left (by omega)]; exact h1 i hl
    · have he : i + 1 = L.length := by simp at hi; omega
      have hi' : i = L.length - 1 := by omega
      rw [he, getD_right, getD_left (by omega), hi']
      exact h2 (by omega)
theorem adjE.addE {E : List Op3} (h : adjE E) (k : Int) : adjE (Proofs.Ytfmolbgfhchdkaa.addE E k) := by
  unfold Proofs.Ytfmolbgfhchdkaa.addE
  split
  · rename_i hk
    rcases List.eq_nil_or_concat E with rfl | ⟨L, x, rfl⟩
    · exact absurd rfl hk.1
    · rw [List.concat_eq_append] at h hk ⊢
      rw [last_snoc] at hk ⊢
      have e1 : (L ++ [x]).length - 1 = L.length := by simp
      rw [e1, List.set_append_right _ _ (Nat.le_refl _)]
      simp only [Nat.sub_self, List.set_cons_zero]
      have := adjE_snoc.1 h
      exact adjE_snoc.2 this
  · rename_i hk
    refine adjE_snoc.2 ⟨h, fun h0 he => hk ⟨h0, he.symm⟩⟩
theorem adj_ofE (d : List Int) : adjE (ofE d) := by
  have key : ∀ (l : List Int) (E : List Op3), adjE E → adjE (l.foldl addE E) := by
    intro l
    induction l with
    | nil => intro E h; exact h
    | cons k l ih => intro E h; exact ih _ (h.addE k)
  exact key d [] (fun i hi => by simp at hi)
end Go.Proofs.Ytfmolbgfhchdkaa
