/-
  Bits as bytes, in plain Lean: what is read of the bytes of bits are the bits.
-/
import Derived.Test.YtfmolbgfhchdkaaBy
import Derived.Test.YtfmolbgfhchdkaaBitG
namespace Go.Proofs.Ytfmolbgfhchdkaa
open Go.RowKit

/-! ### eight bits as a number -/
def valB (f : Nat → Bool) : Nat → Nat
  | 0 => 0
  | k + 1 => valB f k + (if f k then 2 ^ k else 0)
theorem valB_lt (f : Nat → Bool) : ∀ k, valB f k < 2 ^ k
  | 0 => by simp [valB]
  | k + 1 => by
    have := valB_lt f k
    unfold valB
    rw [Nat.pow_succ]
    split <;> omega
theorem valB_succ (f : Nat → Bool) : ∀ k, valB f (k + 1) = (if f 0 then 1 else 0) + 2 * valB (fun i => f (i + 1)) k
  | 0 => by simp [valB]
  | k + 1 => by
    have ih := valB_succ f k
    have e : valB f (k + 1 + 1) = valB f (k + 1) + (if f (k + 1) then 2 ^ (k + 1) else 0) := rfl
    have e2 : valB (fun i => f (i + 1)) (k + 1) = valB (fun i => f (i + 1)) k + (if f (k + 1) then 2 ^ k else 0) := rfl
    rw [e, ih, e2, Nat.pow_succ]
    cases f (k + 1)
    · simp
    · simp only [if_true]
      omega
theorem valB_bit : ∀ (m : Nat) (f : Nat → Bool) (k : Nat), k < m → (valB f m / 2 ^ k % 2 == 1) = f k
  | m + 1, f, 0, _ => by
    rw [valB_succ]
    cases h : f 0
    · simp
    · simp only [if_true, Nat.pow_zero, Nat.div_one]
      have : (1 + 2 * valB (fun i => f (i + 1)) m) % 2 = 1 := by omega
      rw [this]; rfl
  | m + 1, f, k + 1, h => by
    have e : valB f (m + 1) / 2 ^ (k + 1) = valB (fun i => f (i + 1)) m / 2 ^ k := by
      rw [Nat.pow_succ, Nat.mul_comm, ← Nat.div_div_eq_div_mul, valB_succ]
      congr 1
      split <;> omega
    rw [e]
    exact valB_bit m (fun i => f (i + 1)) k (by omega)
theorem valB_of : ∀ (m b : Nat), b < 2 ^ m → valB (fun i => b / 2 ^ i % 2 == 1) m = b
  | 0, b, h => by simp at h; subst h; rfl
  | m + 1, b, h => by
    rw [valB_succ]
    have e : (fun i => b / 2 ^ (i + 1) % 2 == 1) = (fun i => b / 2 / 2 ^ i % 2 == 1) := by
      funext i
      rw [Nat.pow_succ, Nat.mul_comm, Nat.div_div_eq_div_mul]
    rw [e, valB_of m (b / 2) (by rw [Nat.pow_succ] at h; omega)]
    simp only [Nat.pow_zero, Nat.div_one]
    by_cases h2 : b % 2 = 1
    · simp only [h2]
      simp
      omega
    · have h0 : b % 2 = 0 := by omega
      simp only [h0]
      simp
      omega
theorem valB_congr {f g : Nat → Bool} : ∀ {m : Nat}, (∀ k, k < m → f k = g k) → valB f m = valB g m
  | 0, _ => rfl
  | m + 1, h => by
    unfold valB
    rw [valB_congr (fun k hk => h k (by omega)), h m (by omega)]
theorem valB_zero {f : Nat → Bool} {n : Nat} : ∀ {m : Nat}, n ≤ m → (∀ k, n ≤ k → f k = false) → valB f m = valB f n
  | 0, hm, _ => by have : n = 0 := by omega
                   subst this; rfl
  | m + 1, hm, h => by
    by_cases e : n = m + 1
    · rw [e]
    · have e2 : valB f (m + 1) = valB f m + (if f m then 2 ^ m else 0) := rfl
      rw [e2, h m (by omega), valB_zero (by omega) h]
      simp
/-! ### the bytes of bits -/
/-- byte j -/
def byF (l : List Bool) (j : Nat) : Nat → Bool := fun k => l.getD (8 * j + k) false
def byV (l : List Bool) (j : Nat) : Nat := valB (byF l j) 8
def nbB (n : Nat) : Nat := (n + 7) / 8
def bodyB (l : List Bool) (m : Nat) : List UInt8 := (List.range m).map fun j => UInt8.ofNat (byV l j)
theorem bodyB_length (l : List Bool) (m : Nat) : (bodyB l m).length = m := by simp [bodyB]
theorem bodyB_succ (l : List Bool) (m : Nat) : bodyB l (m + 1) = bodyB l m ++ [UInt8.ofNat (byV l m)] := by simp [bodyB, List.range_succ]
theorem byV_lt (l : List Bool) (j : Nat) : byV l j < 256 := valB_lt _ 8
theorem bodyB_getD {l : List Bool} {m j : Nat} (h : j < m) : ((bodyB l m).getD j 0).toNat = byV l j := by
  rw [List.getD_eq_getElem?_getD, List.getElem?_eq_getElem (by rw [bodyB_length]; exact h)]
  simp only [bodyB, List.getElem_map, List.getElem_range, Option.getD_some]
  rw [ofNat_toNat, Nat.mod_eq_of_lt (byV_lt l j)]
def encB (S g : Nat) (l : List Bool) : List UInt8 := numL 2 S ++ numL 1 g ++ bodyB l (nbB l.length)
theorem encB_length (S g : Nat) (l : List Bool) : (encB S g l).length = 3 + nbB l.length := by
  unfold encB
  rw [List.length_append, List.length_append, numL_length, numL_length, bodyB_length]
def goodB (S g : Nat) (l : List Bool) : Prop := S ≤ 4096 ∧ pow2 (g : Int) = true ∧ l.length = gran S g
/-- bit i of the bytes behind the head -/
def bitB (bs : List UInt8) (i : Nat) : Bool := (bs.getD (3 + i / 8) 0).toNat / 2 ^ (i % 8) % 2 == 1
def decL (bs : List UInt8) (n : Nat) : List Bool := (List.range n).map (bitB bs)
theorem decL_length (bs : List UInt8) (n : Nat) : (decL bs n).length = n := by simp [decL]
theorem decL_getD (bs : List UInt8) (n i : Nat) : (decL bs n).getD i false = (decide (i < n) && bitB bs i) := by
  rw [List.getD_eq_getElem?_getD]
  by_cases h : i < n
  · rw [List.getElem?_eq_getElem (by rw [decL_length]; exact h)]
    simp [decL, h]
  · rw [List.getElem?_eq_none (by rw [decL_length]; omega)]
    simp [h]
theorem encB_byte {S g : Nat} {l : List Bool} {j : Nat} (h : j < nbB l.length) : ((encB S g l).getD (3 + j) 0).toNat = byV l j := by
  unfold encB
  rw [List.getD_eq_getElem?_getD, List.getElem?_append_right (by rw [List.length_append, numL_length, numL_length]; omega), List.length_append, numL_length, numL_length, show 3 + j - (2 + 1) = j by omega, ← List.getD_eq_getElem?_getD]
  exact bodyB_getD h
theorem encB_bit {S g : Nat} {l : List Bool} {i : Nat} (h : i / 8 < nbB l.length) : bitB (encB S g l) i = l.getD i false := by
  unfold bitB
  rw [encB_byte h]
  unfold byV
  rw [valB_bit 8 _ _ (Nat.mod_lt _ (by omega))]
  unfold byF
  congr 1
  omega
theorem encB_dec {S g : Nat} {l : List Bool} : decL (encB S g l) l.length = l := by
  apply List.ext_getElem
  · rw [decL_length]
  · intro i h1 h2
    have e1 := decL_getD (encB S g l) l.length i
    rw [List.getD_eq_getElem?_getD, List.getElem?_eq_getElem h1, encB_bit (by unfold nbB; omega), List.getD_eq_getElem?_getD, List.getElem?_eq_getElem h2] at e1
    simpa [h2] using e1
theorem goodB_small {S g : Nat} {l : List Bool} (h : goodB S g l) : S < 65536 ∧ 1 ≤ g ∧ g ≤ 64 ∧ l.length ≤ 4096 := by
  obtain ⟨h1, h2, h3⟩ := h
  have h4 := pow2_le h2
  refine ⟨by omega, by omega, by omega, ?_⟩
  rw [h3]
  exact gran_le h1 (by omega)
theorem encB_S {S g : Nat} {l : List Bool} (h : S < 65536) : valL ((encB S g l).take 2) = S := by
  unfold encB
  rw [List.append_assoc, List.take_append_of_le_length (by rw [numL_length]; exact Nat.le_refl _), List.take_of_length_le (by rw [numL_length]; exact Nat.le_refl _), valL_numL]
  exact Nat.mod_eq_of_lt h
theorem encB_g {S g : Nat} {l : List Bool} (h : g < 256) : valL (((encB S g l).drop 2).take 1) = g := by
  unfold encB
  rw [List.append_assoc, List.drop_append_of_le_length (by rw [numL_length]; exact Nat.le_refl _), List.drop_of_length_le (by rw [numL_length]; exact Nat.le_refl _), List.nil_append,
    List.take_append_of_le_length (by rw [numL_length]; exact Nat.le_refl _), List.take_of_length_le (by rw [numL_length]; exact Nat.le_refl _), valL_numL]
  exact Nat.mod_eq_of_lt h
theorem encB_inj {S g S' g' : Nat} {l l' : List Bool} (h : goodB S g l) (h' : goodB S' g' l') (e : encB S g l = encB S' g' l') : S = S' ∧ g = g' ∧ l = l' := by
  obtain ⟨a1, a2, a3, a4⟩ := goodB_small h
  obtain ⟨b1, b2, b3, b4⟩ := goodB_small h'
  have e1 : S = S' := by rw [← encB_S (g := g) (l := l) a1, e, encB_S b1]
  have e2 : g = g' := by rw [← encB_g (S := S) (g := g) (l := l) (by omega), e, encB_g (by omega)]
  subst e1; subst e2
  have e3 : l.length = l'.length := h.2.2.trans h'.2.2.symm
  refine ⟨rfl, rfl, ?_⟩
  rw [← encB_dec (S := S) (g := g) (l := l), e, e3, encB_dec]
/-- bytes that are bits' -/
theorem encB_of {bs : List UInt8} {S g : Nat} (hS : valL (bs.take 2) = S) (hg : valL ((bs.drop 2).take 1) = g) (hl : bs.length = 3 + nbB (gran S g)) (h0 : ∀ i, gran S g ≤ i → i / 8 < nbB (gran S g) → bitB bs i = false) :
    encB S g (decL bs (gran S g)) = bs := by
  have hb : bs = bs.take 2 ++ ((bs.drop 2).take 1 ++ bs.drop 3) := by
    have e1 : (bs.drop 2).take 1 ++ bs.drop 3 = bs.drop 2 := by
      have := List.take_append_drop 1 (bs.drop 2)
      rwa [List.drop_drop] at this
    rw [e1, List.take_append_drop]
  have e1 : numL 2 S = bs.take 2 := by
    rw [← hS]
    have := numL_valL (bs.take 2)
    rwa [show (bs.take 2).length = 2 by rw [List.length_take]; omega] at this
  have e2 : numL 1 g = (bs.drop 2).take 1 := by
    rw [← hg]
    have := numL_valL ((bs.drop 2).take 1)
    rwa [show ((bs.drop 2).take 1).length = 1 by rw [List.length_take, List.length_drop]; omega] at this
  have e3 : bodyB (decL bs (gran S g)) (nbB (decL bs (gran S g)).length) = bs.drop 3 := by
    rw [decL_length]
    apply List.ext_getElem
    · rw [bodyB_length, List.length_drop]; omega
    · intro j h1 h2
      have hj : j < nbB (gran S g) := by rw [bodyB_length] at h1; exact h1
      apply UInt8.toNat_inj.1
      have e4 := bodyB_getD (l := decL bs (gran S g)) hj
      rw [List.getD_eq_getElem?_getD, List.getElem?_eq_getElem h1, Option.getD_some] at e4
      rw [e4, List.getElem_drop]
      have e5 : bs[3 + j]'(by omega) = bs.getD (3 + j) 0 := by rw [List.getD_eq_getElem?_getD, List.getElem?_eq_getElem (by omega)]; rfl
      rw [e5]
      have hb : (bs.getD (3 + j) 0).toNat < 2 ^ 8 := (bs.getD (3 + j) 0).toNat_lt
      rw [← valB_of 8 _ hb]
      unfold byV
      apply valB_congr
      intro k hk
      unfold byF
      rw [decL_getD]
      have e6 : bitB bs (8 * j + k) = ((bs.getD (3 + j) 0).toNat / 2 ^ k % 2 == 1) := by
        unfold bitB
        rw [show (8 * j + k) / 8 = j by omega, show (8 * j + k) % 8 = k by omega]
      by_cases hi : 8 * j + k < gran S g
      · rw [decide_eq_true hi, Bool.true_and, e6]
      · rw [decide_eq_false hi, Bool.false_and, ← e6, h0 _ (by omega) (by rw [show (8 * j + k) / 8 = j by omega]; exact hj)]
  unfold encB
  rw [e1, e2, e3, List.append_assoc]
  exact hb.symm
end Go.Proofs.Ytfmolbgfhchdkaa
