/-
  Rows of rows of slots; few, own, plain, same.
-/
import Derived.Test.YtmbbmombhkaeoaaChkB
namespace Go.Proofs.Ytmbbmombhkaeoaa
open Go.RowKit
attribute [local go_sem high] equalSlot0 equalSlotR0

/-- v is a slice of slices of slots that reads as the lists ls -/
def SlR (w : World) (v : Value) (ls : List (List Slt)) : Prop := ∃ vs : List Value, vs.length = ls.length ∧ Sl w v ls.length vs ∧ ∀ i u, vs[i]? = some u → SlS w u (ls.getD i [])
theorem SlR.fr0 {w w' : World} {v : Value} {ls : List (List Slt)} (h : SlR w v ls) (hf : Fr [] w w') : SlR w' v ls := by
  obtain ⟨vs, h1, h2, h3⟩ := h
  exact ⟨vs, h1, h2.fr0 hf, fun i u hu => (h3 i u hu).fr0 hf⟩
theorem SlR.open {w : World} {v : Value} {ls : List (List Slt)} (h : SlR w v ls) : ∃ a cap, v = .slice a ls.length cap ∧ ls.length ≤ cap ∧ cap ≤ maxLen := by
  obtain ⟨vs, _, ⟨a, cap, rfl, h2, h3, _⟩, _⟩ := h
  exact ⟨a, cap, rfl, h2, h3⟩
theorem SlR.at {w : World} {a : Option Addr} {n cap : Nat} {ls : List (List Slt)} (h : SlR w (.slice a n cap) ls) {i : Nat} (hi : i < ls.length) :
    ∃ b off a' cap', a = some ⟨b, off, none⟩ ∧ b < w.heap.size ∧ w.cell? ⟨b, off + i, none⟩ = some (.slice a' (ls.getD i []).length cap') ∧ SlS w (.slice a' (ls.getD i []).length cap') (ls.getD i []) ∧ (ls.getD i []).length ≤ 9223372036854775807 := by
  obtain ⟨vs, h1, ⟨a', cap', hv, h2, h3, hc⟩, h4⟩ := h
  cases hv
  have hiv : i < vs.length := by omega
  have hu : vs[i]? = some vs[i] := List.getElem?_eq_getElem hiv
  have hs := h4 i _ hu
  obtain ⟨a2, cap2, he, hl2, hc2, _⟩ := hs.open
  rcases hc with hc | ⟨b, off, rfl, hb, hc⟩
  · rw [hc] at hiv; simp at hiv
  · refine ⟨b, off, a2, cap2, rfl, hb, ?_, he ▸ hs, by unfold maxLen at hc2; omega⟩
    rw [hc i _ hu, he]
/-- a row that is being made: the slices that it has so far are apart from it -/
def MadeV (w : World) (base : Nat) (e : TypeId) (v : Value) (ls : List (List Slt)) (vs : List Value) : Prop :=
  w.ownsRow base e 1 v ls.length vs ∧ vs.length = ls.length ∧ ∀ i u, vs[i]? = some u → SlS w u (ls.getD i []) ∧ ∀ b, u.ownBlock = some b → b < w.heap.size ∧ v.ownBlock ≠ some b
def MadeR (w : World) (base : Nat) (e : TypeId) (v : Value) (ls : List (List Slt)) : Prop := ∃ vs, MadeV w base e v ls vs
theorem MadeR.slr {w : World} {base : Nat} {e : TypeId} {v : Value} {ls : List (List Slt)} (h : MadeR w base e v ls) : SlR w v ls := by
  obtain ⟨vs, h1, h2, h3⟩ := h
  exact ⟨vs, h2, Sl.of_owns h1, fun i u hu => (h3 i u hu).1⟩
theorem MadeR.nil (w : World) (base : Nat) (e : TypeId) : MadeR w base e (.slice none 0 0) [] := ⟨[], World.ownsRow_nil _ _ _ _, rfl, fun i u hu => by simp at hu⟩
theorem MadeV.fr {L : List Nat} {w w' : World} {base : Nat} {e : TypeId} {v : Value} {ls : List (List Slt)} {vs : List Value} (h : MadeV w base e v ls vs) (hf : Fr L w w') (hL : ∀ x ∈ L, w.heap.size ≤ x) : MadeV w' base e v ls vs := by
  obtain ⟨h1, h2, h3⟩ := h
  refine ⟨owns_fr h1 hf fun k hk hm => ?_, h2, fun i u hu => ⟨(h3 i u hu).1.fr hf fun k hk hm => ?_, fun b hb => ⟨Nat.lt_of_lt_of_le ((h3 i u hu).2 b hb).1 hf.size, ((h3 i u hu).2 b hb).2⟩⟩⟩
  · have := (h1.lt k hk).2
    have := hL k hm
    omega
  · have := ((h3 i u hu).2 k hk).1
    have := hL k hm
    omega
theorem MadeR.fr {L : List Nat} {w w' : World} {base : Nat} {e : TypeId} {v : Value} {ls : List (List Slt)} (h : MadeR w base e v ls) (hf : Fr L w w') (hL : ∀ x ∈ L, w.heap.size ≤ x) : MadeR w' base e v ls := by
  obtain ⟨vs, h⟩ := h
  exact ⟨vs, h.fr hf hL⟩
theorem MadeR.lt {w : World} {base : Nat} {e : TypeId} {v : Value} {ls : List (List Slt)} (h : MadeR w base e v ls) : ∀ b, v.ownBlock = some b → base ≤ b ∧ b < w.heap.size := by
  obtain ⟨vs, h, _⟩ := h
  exact h.lt
/-- one slice more -/
theorem MadeV.snoc {w w' : World} {base : Nat} {e : TypeId} {v v' x : Value} {ls : List (List Slt)} {l : List Slt} {vs : List Value} (h : MadeV w base e v ls vs)
    (hown : w'.ownsRow base e 1 v' (ls.length + 1) (vs ++ [x])) (hg : w.grownBy w' v.ownBlock) (hloc : v'.ownBlock = v.ownBlock ∨ v'.ownBlock = some w.heap.size)
    (hx : SlS w x l) (hxb : ∀ b, x.ownBlock = some b → b < w.heap.size ∧ v.ownBlock ≠ some b) : MadeR w' base e v' (ls ++ [l]) := by
  obtain ⟨h1, h2, h3⟩ := h
  have hf := Fr.of_grown hg
  have key : ∀ u l', SlS w u l' → (∀ b, u.ownBlock = some b → b < w.heap.size ∧ v.ownBlock ≠ some b) → SlS w' u l' ∧ ∀ b, u.ownBlock = some b → b < w'.heap.size ∧ v'.ownBlock ≠ some b := fun u l' hu hb => by
    refine ⟨hu.fr hf fun k hk hm => ?_, fun b hub => ⟨Nat.lt_of_lt_of_le (hb b hub).1 hf.size, ?_⟩⟩
    · cases hv : v.ownBlock with
      | none => simp [hv] at hm
      | some z =>
        simp [hv] at hm
        exact (hb k hk).2 (by rw [hv, hm])
    · rcases hloc with e | e
      · rw [e]; exact (hb b hub).2
      · rw [e]
        intro e2
        have := (hb b hub).1
        cases e2
        omega
  refine ⟨vs ++ [x], by simpa using hown, by simp [h2], fun i u hu => ?_⟩
  by_cases hi : i < vs.length
  · rw [List.getElem?_append_left hi] at hu
    have := key u _ (h3 i u hu).1 (h3 i u hu).2
    rwa [List.getD_eq_getElem?_getD, List.getElem?_append_left (by omega), ← List.getD_eq_getElem?_getD]
  · have hie : i = vs.length := by
      have := (List.getElem?_eq_some_iff.1 hu).1
      simp at this
      omega
    subst hie
    rw [List.getElem?_append_right (Nat.le_refl _)] at hu
    simp at hu
    subst hu
    have := key x l hx hxb
    rw [List.getD_eq_getElem?_getD, h2, List.getElem?_append_right (Nat.le_refl _)]
    simpa using this
end Go.Proofs.Ytmbbmombhkaeoaa
