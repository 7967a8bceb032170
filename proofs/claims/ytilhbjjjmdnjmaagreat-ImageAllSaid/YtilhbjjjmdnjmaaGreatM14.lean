/-
  The pieces of sectors, in plain Lean.
-/
import Derived.Test.YtilhbjjjmdnjmaaGreatM02
namespace Go.Proofs.YtilhbjjjmdnjmaaGreat

/-- the first cluster; how many clusters; a piece's cluster, from, to, at (z: the bytes of a cluster) -/
def pcF (z a : Nat) : Nat := 16 * a / z
def pcN (z a l : Nat) : Nat := if l = 0 then 0 else (16 * (a + l) + z - 1) / z - 16 * a / z
def pcC (z a k : Nat) : Nat := pcF z a + k
def pcFr (z a k : Nat) : Nat := 16 * a - pcC z a k * z
def pcTo (z a l k : Nat) : Nat := min (16 * (a + l) - pcC z a k * z) z
def pcAt (z a k : Nat) : Nat := pcC z a k * z + pcFr z a k - 16 * a
theorem ceil_lt' {x z c : Nat} (hz : 0 < z) : c < (x + z - 1) / z ↔ c * z < x := by
  rw [Nat.lt_iff_add_one_le, Nat.le_div_iff_mul_le hz, Nat.add_mul, Nat.one_mul]
  omega
section
variable {z a l k : Nat} (hz : 0 < z)
include hz
theorem pc_lt : k < pcN z a l ↔ 0 < l ∧ pcC z a k * z < 16 * (a + l) := by
  unfold pcN pcC pcF
  by_cases hl : l = 0
  · rw [if_pos hl]
    omega
  · rw [if_neg hl, ← ceil_lt' hz]
    have hle : 16 * a / z ≤ (16 * (a + l) + z - 1) / z := Nat.div_le_div_right (by omega)
    omega
/-- where a piece lies -/
theorem pc_facts (hk : k < pcN z a l) : pcFr z a k < pcTo z a l k ∧ pcTo z a l k ≤ z ∧ pcC z a k * z + pcTo z a l k ≤ 16 * (a + l) ∧ pcAt z a k + (pcTo z a l k - pcFr z a k) ≤ 16 * l ∧
    16 * a ≤ pcC z a k * z + pcFr z a k ∧ (k = 0 ∨ pcFr z a k = 0) ∧ (0 < k → pcC z a k * z + pcFr z a k = pcC z a k * z) ∧ (k + 1 < pcN z a l → pcTo z a l k = z) ∧ (k + 1 = pcN z a l → pcC z a k * z + pcTo z a l k = 16 * (a + l)) := by
  obtain ⟨h1, h2⟩ := (pc_lt hz).1 hk
  have h3 : 16 * a / z * z ≤ 16 * a := Nat.div_mul_le_self _ _
  have h4 : 16 * a < 16 * a / z * z + z := by
    have e1 := Nat.mod_lt (16 * a) hz
    have e := Nat.div_add_mod (16 * a) z
    rw [Nat.mul_comm z] at e
    omega
  have h5 : pcC z a k * z = 16 * a / z * z + k * z := by unfold pcC pcF; rw [Nat.add_mul]
  have h6 : 0 < k → z ≤ k * z := fun h => by
    calc z = 1 * z := (Nat.one_mul z).symm
      _ ≤ k * z := Nat.mul_le_mul_right z h
  have h7 : pcC z a (k + 1) * z = pcC z a k * z + z := by unfold pcC; rw [← Nat.add_assoc, Nat.add_mul (pcF z a + k) 1, Nat.one_mul]
  have h8 : k + 1 < pcN z a l → pcC z a k * z + z < 16 * (a + l) := fun h => by
    have := ((pc_lt hz).1 h).2
    omega
  have h9 : k + 1 = pcN z a l → ¬ pcC z a k * z + z < 16 * (a + l) := fun h h' => by
    have := (pc_lt (a := a) (l := l) (k := k + 1) hz).2 ⟨h1, by omega⟩
    omega
  have hfr : pcFr z a k = 16 * a - pcC z a k * z := rfl
  have hto : pcTo z a l k = min (16 * (a + l) - pcC z a k * z) z := rfl
  have hat : pcAt z a k = pcC z a k * z + pcFr z a k - 16 * a := rfl
  generalize pcC z a k * z = m at *
  generalize 16 * a / z * z = q at *
  generalize k * z = r at *
  refine ⟨?_, ?_, ?_, ?_, ?_, ?_, ?_, ?_, ?_⟩
  · by_cases h0 : 0 < k
    · have := h6 h0; omega
    · have : k = 0 := by omega
      subst this
      omega
  · omega
  · omega
  · omega
  · by_cases h0 : 0 < k
    · have := h6 h0; omega
    · omega
  · by_cases h0 : 0 < k
    · right; have := h6 h0; omega
    · left; omega
  · intro h0
    have := h6 h0
    omega
  · intro h
    have := h8 h
    omega
  · intro h
    have := h9 h
    omega
end
end Go.Proofs.YtilhbjjjmdnjmaaGreat
