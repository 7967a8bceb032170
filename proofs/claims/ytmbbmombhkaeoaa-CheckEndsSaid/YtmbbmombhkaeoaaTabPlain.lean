/-
  The table as a list of slots: what its calls answer, in plain Lean.
-/
import Derived.Test.YtmbbmombhkaeoaaMem
namespace Go.Proofs.Ytmbbmombhkaeoaa
open Go.RowKit

/-- a slot: Kind, Host, Own -/
abbrev Slt := Int × Int × Bool
def zS : Slt := (0, 0, false)
def rightS (s : Slt) : Bool := if s.1 = 1 then decide (0 ≤ s.2.1) && decide (s.2.1 < 512) else (decide (s.1 = 0) || decide (s.1 = 2)) && decide (s.2.1 = 0) && !s.2.2
theorem rightS_zS : rightS zS = true := rfl
theorem right_hole {s : Slt} (h : rightS s = true) (h0 : s.1 = 0) : s = zS := by
  obtain ⟨a, b, c⟩ := s
  simp only at h0
  subst h0
  simp [rightS] at h
  simp [zS, h.1, h.2]
abbrev slotC (s : Slt) : List Value := [.int .i64 s.1, .int .i64 s.2.1, .bool s.2.2]
abbrev slotV (s : Slt) : Value := .agg #[.int .i64 s.1, .int .i64 s.2.1, .bool s.2.2]
def sEq (a b : Slt) : Bool := decide (a.1 = b.1) && decide (a.2.1 = b.2.1) && (a.2.2 == b.2.2)
theorem sEq_iff (a b : Slt) : sEq a b = true ↔ a = b := by
  obtain ⟨a1, a2, a3⟩ := a; obtain ⟨b1, b2, b3⟩ := b
  simp [sEq, and_assoc]
theorem sEq_self (a : Slt) : sEq a a = true := (sEq_iff a a).2 rfl

/-- the slot of a cluster -/
def tget (l : List Slt) (c : Int) : Slt := if 0 ≤ c then l.getD c.toNat zS else zS
theorem tget_nat (l : List Slt) (n : Nat) : tget l (n : Int) = l.getD n zS := by simp [tget]
theorem tget_out {l : List Slt} {c : Int} (h : c < 0 ∨ (l.length : Int) ≤ c) : tget l c = zS := by
  unfold tget
  split
  · rw [List.getD_eq_getElem?_getD, List.getElem?_eq_none (by omega)]; rfl
  · rfl
theorem right_getD {l : List Slt} (h : ∀ s ∈ l, rightS s = true) (n : Nat) : rightS (l.getD n zS) = true := by
  rw [List.getD_eq_getElem?_getD]
  cases hx : l[n]? with
  | none => rfl
  | some s => exact h s (List.mem_of_getElem? hx)
theorem right_tget {l : List Slt} (h : ∀ s ∈ l, rightS s = true) (c : Int) : rightS (tget l c) = true := by
  unfold tget; split; exact right_getD h _; rfl
def tSet (l : List Slt) (c : Int) (s : Slt) : List Slt × Slt × Int :=
  if 0 ≤ c ∧ c < l.length ∧ rightS s = true then (l.set c.toNat s, tget l c, 0) else (l, zS, 1)
def tResize (l : List Slt) (n : Int) : List Slt × List Slt × Int :=
  if 0 ≤ n ∧ n ≤ 256 then (l.take n.toNat ++ List.replicate (n.toNat - l.length) zS, (l.drop n.toNat).filter (fun s => s.1 != 0), 0) else (l, [], 1)
/-- a call: its kind, its number, its slot -/
abbrev Opr := Int × Int × Slt
abbrev opC (o : Opr) : List Value := [.int .i64 o.1, .int .i64 o.2.1, .int .i64 o.2.2.1, .int .i64 o.2.2.2.1, .bool o.2.2.2.2]
abbrev opV (o : Opr) : Value := .agg #[.int .i64 o.1, .int .i64 o.2.1, .int .i64 o.2.2.1, .int .i64 o.2.2.2.1, .bool o.2.2.2.2]
def tDo (l : List Slt) (o : Opr) : List Slt × List Slt × Int :=
  if o.1 = 0 then ((tSet l o.2.1 o.2.2).1, [(tSet l o.2.1 o.2.2).2.1], (tSet l o.2.1 o.2.2).2.2)
  else if o.1 = 1 then tResize l o.2.1 else (l, [], 0)
theorem tSet_right {l : List Slt} {c : Int} {s : Slt} (h : ∀ s ∈ l, rightS s = true) : ∀ x ∈ (tSet l c s).1, rightS x = true := by
  unfold tSet
  split
  · rename_i hc
    intro x hx
    rcases List.mem_or_eq_of_mem_set hx with hx | rfl
    · exact h x hx
    · exact hc.2.2
  · exact h
theorem tResize_right {l : List Slt} {n : Int} (h : ∀ s ∈ l, rightS s = true) : ∀ x ∈ (tResize l n).1, rightS x = true := by
  unfold tResize
  split
  · intro x hx
    simp only [List.mem_append, List.mem_replicate] at hx
    rcases hx with hx | ⟨_, rfl⟩
    · exact h x (List.mem_of_mem_take hx)
    · rfl
  · exact h
theorem tDo_right {l : List Slt} {o : Opr} (h : ∀ s ∈ l, rightS s = true) : ∀ x ∈ (tDo l o).1, rightS x = true := by
  unfold tDo
  split
  · exact tSet_right h
  · split
    · exact tResize_right h
    · exact h
theorem tSet_len {l : List Slt} {c : Int} {s : Slt} : (tSet l c s).1.length = l.length := by
  unfold tSet; split <;> simp
theorem tResize_len {l : List Slt} {n : Int} (h : 0 ≤ n ∧ n ≤ 256) : (tResize l n).1.length = n.toNat := by
  unfold tResize; rw [if_pos h]; simp; omega
theorem tDo_len {l : List Slt} {o : Opr} (h : l.length ≤ 256) : (tDo l o).1.length ≤ 256 := by
  unfold tDo
  split
  · rw [tSet_len]; exact h
  · split
    · by_cases hn : 0 ≤ o.2.1 ∧ o.2.1 ≤ 256
      · rw [tResize_len hn]; omega
      · unfold tResize; rw [if_neg hn]; exact h
    · exact h

/-! ### groups -/
/-- the group of Holes alone -/
def zG : List Slt := List.replicate 16 zS
theorem zG_length : zG.length = 16 := by simp [zG]
/-- the slots of group k -/
def grp (l : List Slt) (k : Nat) : List Slt := (List.range 16).map fun i => l.getD (16 * k + i) zS
theorem grp_length (l : List Slt) (k : Nat) : (grp l k).length = 16 := by simp [grp]
theorem grp_getD (l : List Slt) (k i : Nat) (h : i < 16) : (grp l k).getD i zS = l.getD (16 * k + i) zS := by
  rw [List.getD_eq_getElem?_getD, List.getElem?_eq_getElem (by rw [grp_length]; exact h)]
  simp [grp]
def keptG (l : List Slt) (k : Nat) : Bool := (grp l k).any fun s => s.1 != 0
def groups (l : List Slt) : Nat := ((List.range 16).filter (keptG l)).length
theorem kept_false {l : List Slt} {k : Nat} (hr : ∀ s ∈ l, rightS s = true) (h : keptG l k = false) : grp l k = zG := by
  rw [zG, List.eq_replicate_iff]
  refine ⟨grp_length l k, fun s hs => ?_⟩
  have h1 : ¬ (s.1 != 0) = true := by
    have := List.any_eq_false.1 h s hs
    exact this
  have h0 : s.1 = 0 := by simpa using h1
  obtain ⟨i, _, rfl⟩ := List.mem_map.1 hs
  exact right_hole (right_getD hr _) h0
theorem kept_iff {l : List Slt} {k : Nat} (hr : ∀ s ∈ l, rightS s = true) : keptG l k = true ↔ grp l k ≠ zG := by
  constructor
  · intro h e
    unfold keptG at h
    rw [e] at h
    simp [zG, zS] at h
  · intro h
    cases hk : keptG l k with
    | true => rfl
    | false => exact absurd (kept_false hr hk) h
theorem getD_set (l : List Slt) (c n : Nat) (s : Slt) (hc : c < l.length) : (l.set c s).getD n zS = if n = c then s else l.getD n zS := by
  rw [List.getD_eq_getElem?_getD, List.getElem?_set, List.getD_eq_getElem?_getD]
  by_cases h : c = n
  · subst h; simp [hc]
  · rw [if_neg h, if_neg (fun e => h e.symm)]
theorem grp_set_same (l : List Slt) (c : Nat) (s : Slt) (hc : c < l.length) : grp (l.set c s) (c / 16) = (grp l (c / 16)).set (c % 16) s := by
  apply List.ext_getElem
  · simp [grp_length]
  · intro i h1 h2
    rw [grp_length] at h1
    rw [List.getElem_set]
    simp only [grp, List.getElem_map, List.getElem_range]
    rw [getD_set _ _ _ _ hc]
    by_cases h : c % 16 = i
    · rw [if_pos (by omega), if_pos h]
    · rw [if_neg (by omega), if_neg h]
theorem grp_set_other (l : List Slt) (c k : Nat) (s : Slt) (hc : c < l.length) (hk : k ≠ c / 16) : grp (l.set c s) k = grp l k := by
  unfold grp
  apply List.map_congr_left
  intro i hi
  rw [List.mem_range] at hi
  rw [getD_set _ _ _ _ hc, if_neg (by omega)]
theorem kept_set_other (l : List Slt) (c k : Nat) (s : Slt) (hc : c < l.length) (hk : k ≠ c / 16) : keptG (l.set c s) k = keptG l k := by
  unfold keptG; rw [grp_set_other l c k s hc hk]
theorem grp_tget {l : List Slt} {c : Int} (h0 : 0 ≤ c) : (grp l (c / 16).toNat).getD (c % 16).toNat zS = tget l c := by
  rw [grp_getD _ _ _ (by omega), tget, if_pos h0]
  congr 1
  omega
end Go.Proofs.Ytmbbmombhkaeoaa
