/-
  Some rows of numbers that a call makes side by side: no block is of two of them. No program in sight.
-/
import Derived.Test.YtmbbmombhkaeoaaChkC
namespace Go.Proofs.Ytmbbmombhkaeoaa
open Go.RowKit

def OwnV (w : World) (base : Nat) (e : TypeId) (vs : List Value) (ls : List (List Int)) : Prop :=
  vs.length = ls.length ∧ (∀ (i : Nat) (v : Value), vs[i]? = some v → w.ownsRow base e 1 v (ls.getD i []).length ((ls.getD i []).flatMap intC)) ∧
  ∀ (i j : Nat) (v u : Value) (b : Nat), i ≠ j → vs[i]? = some v → vs[j]? = some u → v.ownBlock = some b → u.ownBlock ≠ some b
theorem OwnV.sl {w : World} {base : Nat} {e : TypeId} {vs : List Value} {ls : List (List Int)} (h : OwnV w base e vs ls) {i : Nat} {v : Value} (hv : vs[i]? = some v) : SlI w v (ls.getD i []) := SlF.of_owns (h.2.1 i v hv)
theorem OwnV.fr {L : List Nat} {w w' : World} {base : Nat} {e : TypeId} {vs : List Value} {ls : List (List Int)} (h : OwnV w base e vs ls) (hf : Fr L w w') (hL : ∀ x ∈ L, x < base ∨ w.heap.size ≤ x) : OwnV w' base e vs ls := by
  refine ⟨h.1, fun i v hv => owns_fr (h.2.1 i v hv) hf fun k hk hm => ?_, h.2.2⟩
  have := (h.2.1 i v hv).lt k hk
  have := hL k hm
  omega
theorem OwnV.step {w w' : World} {base : Nat} {e : TypeId} {vs : List Value} {ls : List (List Int)} (h : OwnV w base e vs ls) (i : Nat) {v v' : Value} (x : Int) (hv : vs[i]? = some v)
    (hown : w'.ownsRow base e 1 v' ((ls.getD i []).length + 1) ((ls.getD i []).flatMap intC ++ intC x)) (hg : w.grownBy w' v.ownBlock) (hloc : v'.ownBlock = v.ownBlock ∨ v'.ownBlock = some w.heap.size) :
    OwnV w' base e (vs.set i v') (ls.set i (ls.getD i [] ++ [x])) := by
  obtain ⟨h1, h2, h3⟩ := h
  have hi : i < vs.length := (List.getElem?_eq_some_iff.1 hv).1
  have hf := Fr.of_grown hg
  have old : ∀ (j : Nat) (u : Value), j ≠ i → (vs.set i v')[j]? = some u → vs[j]? = some u := fun j u hj hu => by
    rwa [List.getElem?_set_ne (by omega)] at hu
  have new : ∀ u : Value, (vs.set i v')[i]? = some u → u = v' := fun u hu => by
    rw [List.getElem?_set_self hi] at hu
    exact (Option.some.inj hu).symm
  have lt : ∀ (j : Nat) (u : Value) (b : Nat), vs[j]? = some u → u.ownBlock = some b → b < w.heap.size := fun j u b hu hb => ((h2 j u hu).lt b hb).2
  refine ⟨by simp [h1], fun j u hu => ?_, fun j k u u' b hjk hu hu' hb hb' => ?_⟩
  · by_cases hj : j = i
    · subst hj
      obtain rfl := new u hu
      have hg2 : (ls.set j (ls.getD j [] ++ [x])).getD j [] = ls.getD j [] ++ [x] := by
        rw [List.getD_eq_getElem?_getD, List.getElem?_set_self (by omega)]; rfl
      rw [hg2]
      simpa using hown
    · have hg2 : (ls.set i (ls.getD i [] ++ [x])).getD j [] = ls.getD j [] := by
        rw [List.getD_eq_getElem?_getD, List.getElem?_set_ne (by omega), List.getD_eq_getElem?_getD]
      rw [hg2]
      have ho := old j u hj hu
      refine owns_fr (h2 j u ho) hf fun k hk hm => ?_
      cases hb : v.ownBlock with
      | none => simp [hb] at hm
      | some z =>
        simp [hb] at hm
        subst hm
        exact h3 i j v u k (by omega) hv ho hb hk
  · by_cases hj : j = i
    · subst hj
      obtain rfl := new u hu
      have ho := old k u' (by omega) hu'
      rcases hloc with e1 | e1
      · exact h3 j k v u' b hjk hv ho (by rw [← e1, hb]) hb'
      · rw [hb] at e1
        cases e1
        exact Nat.lt_irrefl _ (lt k u' _ ho hb')
    · have ho := old j u hj hu
      by_cases hk : k = i
      · subst hk
        obtain rfl := new u' hu'
        rcases hloc with e1 | e1
        · exact h3 j k u v b hjk ho hv hb (by rw [← e1, hb'])
        · rw [hb'] at e1
          cases e1
          exact Nat.lt_irrefl _ (lt j u _ ho hb)
      · exact h3 j k u u' b hjk ho (old k u' hk hu') hb hb'
theorem OwnV.nil (w : World) (base : Nat) (e : TypeId) (n : Nat) : OwnV w base e (List.replicate n (.slice none 0 0)) (List.replicate n []) := by
  refine ⟨by simp, fun i v hv => ?_, fun i j v u b _ hv _ hb => ?_⟩
  · have hv' := List.mem_replicate.1 (List.mem_of_getElem? hv)
    rw [hv'.2]
    have : (List.replicate n ([] : List Int)).getD i [] = [] := by
      rw [List.getD_eq_getElem?_getD, List.getElem?_replicate]
      split <;> rfl
    rw [this]
    exact World.ownsRow_nil _ _ _ _
  · have hv' := List.mem_replicate.1 (List.mem_of_getElem? hv)
    rw [hv'.2] at hb
    simp [Value.ownBlock] at hb
end Go.Proofs.Ytmbbmombhkaeoaa
