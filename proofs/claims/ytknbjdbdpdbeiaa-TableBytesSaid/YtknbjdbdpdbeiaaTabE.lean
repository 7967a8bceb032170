/-
  table.Each: what its iterator hands out, in plain Lean.
-/
import Derived.Test.YtknbjdbdpdbeiaaTabPlain
namespace Go.Proofs.Ytknbjdbdpdbeiaa

/-- a cluster that is listed -/
def isL (l : List Slt) (c : Nat) : Bool := (l.getD c zS).1 != 0
/-- the clusters that are listed, the first first -/
def listed (l : List Slt) : List Nat := (List.range 256).filter (isL l)
/-- how many of them come ahead of c -/
def cntL (l : List Slt) (c : Nat) : Nat := (((List.range 256).take c).filter (isL l)).length
/-- the groups that are kept, the first first -/
def keptL (l : List Slt) : List Nat := (List.range 16).filter (keptG l)
theorem rangeD {n c : Nat} (h : c < n) : (List.range n).getD c 0 = c := by
  rw [List.getD_eq_getElem?_getD, List.getElem?_range h]; rfl
theorem takeE {α : Type} (d : α) {E : List α} {k : Nat} (hk : k < E.length) : E.take (k + 1) = E.take k ++ [E.getD k d] := by
  have hg : E[k] = E.getD k d := by rw [List.getD_eq_getElem?_getD, List.getElem?_eq_getElem hk]; rfl
  rw [List.take_succ_eq_append_getElem hk, hg]
theorem dropE {α : Type} (d : α) {E : List α} {k : Nat} (hk : k < E.length) : E.drop k = E.getD k d :: E.drop (k + 1) := by
  have hg : E[k] = E.getD k d := by rw [List.getD_eq_getElem?_getD, List.getElem?_eq_getElem hk]; rfl
  rw [List.drop_eq_getElem_cons hk, hg]
theorem cnt_next {l : List Slt} {c : Nat} (hc : c < 256) (h : isL l c = true) : cntL l c < (listed l).length ∧ (listed l).getD (cntL l c) 0 = c ∧ cntL l (c + 1) = cntL l c + 1 := by
  have hl : c < (List.range 256).length := by simpa using hc
  have e0 : (List.range 256).getD c 0 = c := rangeD hc
  have e1 : listed l = ((List.range 256).take c).filter (isL l) ++ c :: ((List.range 256).drop (c + 1)).filter (isL l) := by
    have h2 : List.range 256 = (List.range 256).take c ++ c :: (List.range 256).drop (c + 1) := by
      have := dropE 0 hl
      rw [e0] at this
      rw [← this, List.take_append_drop]
    unfold listed
    have h3 := congrArg (fun l' => List.filter (isL l) l') h2
    simp only [List.filter_append, List.filter_cons, if_pos h] at h3
    exact h3
  refine ⟨by rw [e1]; unfold cntL; rw [List.length_append, List.length_cons]; omega, ?_, ?_⟩
  · rw [e1, List.getD_eq_getElem?_getD]
    unfold cntL
    rw [List.getElem?_append_right (Nat.le_refl _), Nat.sub_self]
    rfl
  · unfold cntL
    rw [takeE 0 hl, e0, List.filter_append, List.length_append, List.filter_cons, if_pos h]
    rfl
theorem cnt_skip {l : List Slt} {c : Nat} (hc : c < 256) (h : isL l c = false) : cntL l (c + 1) = cntL l c := by
  have hl : c < (List.range 256).length := by simpa using hc
  unfold cntL
  rw [takeE 0 hl, rangeD hc, List.filter_append, List.length_append, List.filter_cons, if_neg (by rw [h]; decide)]
  rfl
theorem cnt_gap {l : List Slt} (a : Nat) : ∀ b, a ≤ b → b ≤ 256 → (∀ c, a ≤ c → c < b → isL l c = false) → cntL l b = cntL l a
  | b, hab, hb, h => by
    by_cases e : a = b
    · rw [e]
    · obtain ⟨m, rfl⟩ : ∃ m, b = m + 1 := ⟨b - 1, by omega⟩
      rw [cnt_skip (by omega) (h m (by omega) (by omega))]
      exact cnt_gap a m (by omega) (by omega) (fun c h1 h2 => h c h1 (by omega))
  termination_by b => b
theorem cnt_end (l : List Slt) : cntL l 256 = (listed l).length := by
  unfold cntL listed
  rw [List.take_of_length_le (by simp)]
theorem not_kept {l : List Slt} {c : Nat} (h : keptG l (c / 16) = false) : isL l c = false := by
  have h1 := List.any_eq_false.1 h ((grp l (c / 16)).getD (c % 16) zS) (by
    rw [List.getD_eq_getElem?_getD, List.getElem?_eq_getElem (by rw [grp_length]; omega)]
    exact List.getElem_mem _)
  rw [grp_getD l _ _ (by omega), show 16 * (c / 16) + c % 16 = c by omega] at h1
  unfold isL
  simpa using h1
theorem keptL_lt (l : List Slt) : (keptL l).Pairwise (· < ·) := List.Pairwise.filter _ List.pairwise_lt_range
theorem keptL_mem {l : List Slt} {g : Nat} : g ∈ keptL l ↔ g < 16 ∧ keptG l g = true := by
  unfold keptL
  rw [List.mem_filter, List.mem_range]
/-- where the j-th group begins -/
def begL (l : List Slt) (j : Nat) : Nat := if j < (keptL l).length then 16 * (keptL l).getD j 0 else 256
theorem keptL_getD {l : List Slt} {j : Nat} (h : j < (keptL l).length) : (keptL l).getD j 0 < 16 ∧ keptG l ((keptL l).getD j 0) = true := by
  refine keptL_mem.1 ?_
  rw [List.getD_eq_getElem?_getD, List.getElem?_eq_getElem h]
  exact List.getElem_mem _
theorem keptL_mono {l : List Slt} {i j : Nat} (hj : j < (keptL l).length) (hij : i < j) : (keptL l).getD i 0 < (keptL l).getD j 0 := by
  have := List.pairwise_iff_getElem.1 (keptL_lt l) i j (by omega) hj hij
  rw [List.getD_eq_getElem?_getD, List.getElem?_eq_getElem (by omega), List.getD_eq_getElem?_getD, List.getElem?_eq_getElem hj]
  exact this
theorem kept_gap {l : List Slt} {j g : Nat} (hg : g < 16) (h1 : ∀ i, i < j → i < (keptL l).length → (keptL l).getD i 0 < g) (h2 : ∀ i, j ≤ i → i < (keptL l).length → g < (keptL l).getD i 0) : keptG l g = false := by
  cases hk : keptG l g with
  | false => rfl
  | true =>
    obtain ⟨i, hi, he⟩ := List.getElem_of_mem (keptL_mem.2 ⟨hg, hk⟩)
    have e : (keptL l).getD i 0 = g := by rw [List.getD_eq_getElem?_getD, List.getElem?_eq_getElem hi]; exact he
    rcases Nat.lt_or_ge i j with h | h
    · have := h1 i h hi; omega
    · have := h2 i h hi; omega
theorem cnt_first (l : List Slt) : cntL l (begL l 0) = 0 := by
  have hz : cntL l 0 = 0 := by simp [cntL]
  refine Eq.trans ?_ hz
  unfold begL
  split
  · rename_i h
    have hb := keptL_getD h
    refine cnt_gap 0 _ (by omega) (by omega) fun c _ hc => not_kept (kept_gap (j := 0) (by omega) (fun i hi _ => by omega) fun i _ hi => ?_)
    rcases Nat.eq_zero_or_pos i with rfl | hp
    · omega
    · have := keptL_mono hi hp; omega
  · rename_i h
    exact cnt_gap 0 _ (by omega) (by omega) fun c _ hc => not_kept (kept_gap (j := 0) (by omega) (fun i hi _ => by omega) fun i _ hi => by omega)
theorem cnt_group {l : List Slt} {j : Nat} (hj : j < (keptL l).length) : cntL l (16 * (keptL l).getD j 0 + 16) = cntL l (begL l (j + 1)) := by
  have hb := keptL_getD hj
  have key : ∀ c, 16 * (keptL l).getD j 0 + 16 ≤ c → c < begL l (j + 1) → c < 256 → isL l c = false := fun c h1 h2 h3 => by
    refine not_kept (kept_gap (j := j + 1) (by omega) (fun i hi hl => ?_) fun i hi hl => ?_)
    · rcases Nat.lt_or_ge i j with h | h
      · have := keptL_mono hj h; omega
      · have : i = j := by omega
        subst this
        omega
    · unfold begL at h2
      rw [if_pos (by omega)] at h2
      rcases Nat.lt_or_ge (j + 1) i with h | h
      · have := keptL_mono hl h; omega
      · have : i = j + 1 := by omega
        subst this
        omega
  have hle : 16 * (keptL l).getD j 0 + 16 ≤ begL l (j + 1) ∧ begL l (j + 1) ≤ 256 := by
    unfold begL
    split
    · rename_i h
      have h2 := keptL_getD h
      have := keptL_mono h (by omega : j < j + 1)
      omega
    · omega
  exact (cnt_gap _ _ hle.1 hle.2 fun c h1 h2 => key c h1 h2 (by omega)).symm
end Go.Proofs.Ytknbjdbdpdbeiaa
