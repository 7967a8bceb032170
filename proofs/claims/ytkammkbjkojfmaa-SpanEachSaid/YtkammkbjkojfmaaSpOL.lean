/-
  One row over another one, piece by piece: in plain Lean.
-/
import Derived.Test.YtkammkbjkojfmaaSpB2
import Derived.Test.YtkammkbjkojfmaaSpR3
import Derived.Test.YtkammkbjkojfmaaSpAt
namespace Go.Proofs.Ytkammkbjkojfmaa

theorem atK_getD {l : List Op3} (hr : right l = true) (n : Nat) : atK l n = (flatE l).getD n 0 := by
  unfold atK
  by_cases h : n < (flatE l).length
  · rw [if_pos ⟨hr, by omega, by omega⟩]; rfl
  · rw [if_neg (fun h2 => h (by omega)), getD_out _ (by omega)]
/-- between two ends the kind is one -/
theorem kind_same {l : List Op3} (hr : right l = true) {f p : Nat} (hfp : f ≤ p) (h : ∀ e ∈ endsE l, ¬ ((f : Int) < e ∧ e ≤ p)) : (flatE l).getD p 0 = (flatE l).getD f 0 := by
  obtain ⟨hR, hle⟩ := right_ok hr
  by_cases hf : f < (flatE l).length
  · obtain ⟨k, hk, hp⟩ := at_find hr (n := (f : Int)) (by omega) (by omega)
    have g1 := hR.2 k hk
    have g2 := flat_take_le l (k + 1)
    rw [flat_step hk, List.length_append, List.length_replicate] at g2
    have hx := h _ (List.mem_map.2 ⟨l.getD k z3, List.mem_of_getElem? (getD_some z3 hk), rfl⟩)
    have hp2 := hp
    unfold hasP at hp
    rw [IntWalk.wrap64_in _ (by omega)] at hp
    simp only [Bool.and_eq_true, decide_eq_true_eq] at hp
    have hp3 : hasP (p : Int) (l.getD k z3) = true := by
      unfold hasP
      rw [IntWalk.wrap64_in _ (by omega)]
      simp only [Bool.and_eq_true, decide_eq_true_eq]
      omega
    have e1 := (at_kind hr hk hp2).2.2
    have e2 := (at_kind hr hk hp3).2.2
    rw [Int.toNat_natCast] at e1 e2
    rw [e1, e2]
  · rw [getD_out _ (by omega), getD_out _ (by omega)]
theorem end_last {l : List Op3} (hr : right l = true) (h0 : 0 < (flatE l).length) : ((flatE l).length : Int) ∈ endsE l := by
  obtain ⟨hR, hle⟩ := right_ok hr
  rcases List.eq_nil_or_concat l with rfl | ⟨L, x, rfl⟩
  · simp [flatE] at h0
  · rw [List.concat_eq_append] at hR ⊢
    obtain ⟨d', _, hx1, hx2, hd⟩ := RightE.snoc.1 hR
    refine List.mem_map.2 ⟨x, by simp, ?_⟩
    rw [hd, List.length_append, List.length_replicate]
    omega
theorem end_le {l : List Op3} (hr : right l = true) {e : Int} (h : e ∈ endsE l) : 1 ≤ e ∧ e ≤ (flatE l).length := by
  obtain ⟨hR, hle⟩ := right_ok hr
  obtain ⟨x, hx, rfl⟩ := List.mem_map.1 h
  obtain ⟨i, hi, rfl⟩ := List.getElem_of_mem hx
  have hg : l[i] = l.getD i z3 := by rw [List.getD_eq_getElem?_getD, List.getElem?_eq_getElem hi]; rfl
  have g1 := hR.2 i hi
  have g2 := flat_take_le l (i + 1)
  rw [flat_step hi, List.length_append, List.length_replicate] at g2
  rw [hg]
  omega
/-! ### a row of numbers that rises -/
theorem sortI_perm (l : List Int) : (sortI l).Perm l := List.mergeSort_perm _ _
theorem sortI_sorted (l : List Int) : (sortI l).Pairwise (· ≤ ·) := by
  have := List.pairwise_mergeSort (le := fun x y : Int => decide (x ≤ y)) (fun a b c h1 h2 => by simp at *; omega) (fun a b => by simp; omega) l
  exact this.imp (fun h => by simpa using h)
theorem compact_mem (l : List Int) : ∀ x, x ∈ Lib.compact l ↔ x ∈ l := by
  intro x
  unfold Lib.compact Lib.compactUpTo
  simp only [List.mem_map, List.mem_filter, List.mem_range]
  constructor
  · rintro ⟨j, ⟨hj, _⟩, rfl⟩
    simp [hj]
  · intro hx
    obtain ⟨i, hi, rfl⟩ := List.getElem_of_mem hx
    -- the first place that holds it
    have key : ∀ i, (hi : i < l.length) → ∃ j, (j < l.length ∧ Lib.keeps l.toArray j = true) ∧ l.toArray[j]! = l[i] := by
      intro i
      induction i with
      | zero => intro hi; exact ⟨0, ⟨hi, by simp [Lib.keeps]⟩, by simp [hi]⟩
      | succ i ih =>
        intro hi
        by_cases he : l[i + 1] = l[i]
        · obtain ⟨j, hj, hjx⟩ := ih (by omega)
          exact ⟨j, hj, by rw [hjx, he]⟩
        · refine ⟨i + 1, ⟨hi, ?_⟩, by simp [hi]⟩
          unfold Lib.keeps
          simp [hi, show i < l.length by omega, he]
    exact key i hi
theorem compact_rises (l : List Int) (hs : l.Pairwise (· ≤ ·)) : (Lib.compact l).Pairwise (· < ·) := by
  unfold Lib.compact Lib.compactUpTo
  rw [List.pairwise_map]
  refine List.Pairwise.imp_of_mem (R := fun a b : Nat => a < b) (fun {a b} ha hb hab => ?_) (List.pairwise_lt_range.filter _)
  simp only [List.mem_filter, List.mem_range] at ha hb
  have hbk := hb.2
  unfold Lib.keeps at hbk
  have hb0 : b ≠ 0 := by omega
  simp only [hb0, false_or, decide_eq_true_eq] at hbk
  have hbl := hb.1
  have e1 : ∀ i, (h : i < l.length) → l.toArray[i]! = l[i] := fun i h => by simp [h]
  rw [e1 _ hb.1, e1 _ (by omega)] at hbk
  rw [e1 _ ha.1, e1 _ hb.1]
  have h1 : l[b - 1] ≤ l[b] := List.pairwise_iff_getElem.1 hs (b - 1) b (by omega) hb.1 (by omega)
  have h2 : l[a] ≤ l[b - 1] := by
    by_cases h : a = b - 1
    · simp [h]
    · exact List.pairwise_iff_getElem.1 hs a (b - 1) ha.1 (by omega) (by omega)
  omega
/-- the pieces' ends -/
def cutsE (a b : List Op3) : List Int := Lib.compact (sortI (endsE (a ++ b)))
theorem cuts_mem (a b : List Op3) (x : Int) : x ∈ cutsE a b ↔ x ∈ endsE a ∨ x ∈ endsE b := by
  unfold cutsE
  rw [compact_mem, (sortI_perm _).mem_iff]
  unfold endsE
  rw [List.map_append, List.mem_append]
theorem cuts_lt (a b : List Op3) {i j : Nat} (hij : i < j) (hj : j < (cutsE a b).length) : (cutsE a b).getD i 0 < (cutsE a b).getD j 0 := by
  have := List.pairwise_iff_getElem.1 (compact_rises _ (sortI_sorted (endsE (a ++ b)))) i j (by unfold cutsE at hj; omega) hj hij
  rw [List.getD_eq_getElem?_getD, List.getD_eq_getElem?_getD, List.getElem?_eq_getElem hj, List.getElem?_eq_getElem (by omega)]
  exact this
/-- no end lies within a piece -/
theorem cuts_gap (a b : List Op3) {k : Nat} (hk : k < (cutsE a b).length) {e : Int} (he : e ∈ cutsE a b) : e ≤ prevC (cutsE a b) k ∨ (cutsE a b).getD k 0 ≤ e := by
  obtain ⟨i, hi, hie⟩ := List.getElem_of_mem he
  have hg : (cutsE a b).getD i 0 = e := by rw [List.getD_eq_getElem?_getD, List.getElem?_eq_getElem hi, hie]; rfl
  by_cases h : k ≤ i
  · right
    by_cases h2 : k = i
    · rw [h2, hg]; exact Int.le_refl _
    · have := cuts_lt a b (i := k) (j := i) (by omega) hi
      omega
  · left
    unfold prevC
    rw [if_neg (by omega)]
    by_cases h2 : i = k - 1
    · rw [← h2, hg]; exact Int.le_refl _
    · have := cuts_lt a b (i := i) (j := k - 1) (by omega) (by omega)
      omega
theorem overK_eq (A B : List Int) (p : Nat) : overK A B p = if A.getD p 0 = 0 then B.getD p 0 else A.getD p 0 := by
  unfold overK
  by_cases h : A.getD p 0 = 0
  · rw [if_pos h, if_neg (fun h2 => h2.2 h)]
  · have : p < A.length := Nat.lt_of_not_le (fun hl => h (getD_out A hl))
    rw [if_neg h, if_pos ⟨this, h⟩]
/-- a piece -/
theorem over_piece {a b : List Op3} (ha : right a = true) (hb : right b = true) {k : Nat} (hk : k < (cutsE a b).length) {f t : Nat} (hf : prevC (cutsE a b) k = f) (ht : (cutsE a b).getD k 0 = t) :
    f < t ∧ overN (flatE a) (flatE b) t = overN (flatE a) (flatE b) f ++ List.replicate (t - f) (overK (flatE a) (flatE b) f) := by
  have hlt : f < t := by
    unfold prevC at hf
    split at hf
    · have hm : (t : Int) ∈ cutsE a b := by rw [← ht]; exact List.mem_of_getElem? (getD_some 0 hk)
      rcases (cuts_mem a b _).1 hm with h | h
      · have := end_le ha h; omega
      · have := end_le hb h; omega
    · have := cuts_lt a b (i := k - 1) (j := k) (by omega) hk
      omega
  refine ⟨hlt, ?_⟩
  have hsame : ∀ p, f ≤ p → p < t → overK (flatE a) (flatE b) p = overK (flatE a) (flatE b) f := fun p h1 h2 => by
    have no : ∀ e, e ∈ cutsE a b → ¬ ((f : Int) < e ∧ e ≤ p) := fun e he h3 => by
      rcases cuts_gap a b hk he with h | h <;> omega
    have e1 := kind_same ha h1 (fun e he => no e ((cuts_mem a b e).2 (.inl he)))
    have e2 := kind_same hb h1 (fun e he => no e ((cuts_mem a b e).2 (.inr he)))
    rw [overK_eq, overK_eq, e1, e2]
  have key : ∀ n, f + n ≤ t → overN (flatE a) (flatE b) (f + n) = overN (flatE a) (flatE b) f ++ List.replicate n (overK (flatE a) (flatE b) f) := by
    intro n
    induction n with
    | zero => intro _; simp
    | succ n ih =>
      intro h
      rw [← Nat.add_assoc, overN_succ, ih (by omega), hsame (f + n) (by omega) (by omega), List.replicate_succ', List.append_assoc]
  have := key (t - f) (by omega)
  rwa [show f + (t - f) = t by omega] at this
/-- the last end -/
theorem over_last {a b : List Op3} (ha : right a = true) (hb : right b = true) : prevC (cutsE a b) (cutsE a b).length = (max (flatE a).length (flatE b).length : Nat) := by
  have hle : ∀ e ∈ cutsE a b, e ≤ (max (flatE a).length (flatE b).length : Nat) := fun e he => by
    rcases (cuts_mem a b _).1 he with h | h
    · have := end_le ha h; omega
    · have := end_le hb h; omega
  by_cases h0 : max (flatE a).length (flatE b).length = 0
  · have hc : (cutsE a b).length = 0 := by
      rcases Nat.eq_zero_or_pos (cutsE a b).length with h | h
      · exact h
      · have hm := List.mem_of_getElem? (getD_some (0 : Int) h)
        rcases (cuts_mem a b _).1 hm with h | h
        · have := end_le ha h; omega
        · have := end_le hb h; omega
    rw [hc, h0]
    rfl
  · have hm : ((max (flatE a).length (flatE b).length : Nat) : Int) ∈ cutsE a b := by
      rw [cuts_mem]
      by_cases h : (flatE b).length ≤ (flatE a).length
      · left
        rw [Nat.max_eq_left h]
        exact end_last ha (by omega)
      · right
        rw [Nat.max_eq_right (by omega)]
        exact end_last hb (by omega)
    obtain ⟨i, hi, hie⟩ := List.getElem_of_mem hm
    have hg : (cutsE a b).getD i 0 = (max (flatE a).length (flatE b).length : Nat) := by rw [List.getD_eq_getElem?_getD, List.getElem?_eq_getElem hi, hie]; rfl
    unfold prevC
    rw [if_neg (by omega)]
    by_cases h2 : i = (cutsE a b).length - 1
    · rw [← h2, hg]
    · have h3 := cuts_lt a b (i := i) (j := (cutsE a b).length - 1) (by omega) (by omega)
      have h4 := hle _ (List.mem_of_getElem? (getD_some 0 (by omega : (cutsE a b).length - 1 < (cutsE a b).length)))
      omega
theorem overN_len' (a b : List Int) (n : Nat) : (overN a b n).length = n := overN_len a b n
end Go.Proofs.Ytkammkbjkojfmaa
