/-
  A region that draws its order, in which all but few operations yield in whatever world, and each of those few comes up alone: one walk, in the order of the text. No program in sight.
-/
import Derived.Test.YtmbbmombhkaeoaaMem
import Derived.Deep.RegionWith
namespace Go.Proofs.Ytmbbmombhkaeoaa
open Go
section
variable {P : Program} {ops : Array Oper} {Q : Exit → Act → World → Prop}
/-- each operation in the order of the text: 'true': it yields in whatever world; 'false': it comes up alone -/
def wpT (P : Program) (ops : Array Oper) (Q : Exit → Act → World → Prop) : List (Bool × Oper) → Act → World → Prop
  | [], a, w => Q .normal a w
  | (true, o) :: rest, a, w => ∃ v, Yields P ops o v a ∧ wpT P ops Q rest (a.put o.dst v) w
  | (false, o) :: rest, a, w => if Region.wanted o (yielded ops a.tmps) then o.wp P a w (wpT P ops Q rest) Q else wpT P ops Q rest (a.put o.dst undef) w
/-- what is asked of the region's text -/
def tB (md : Region.Mode) (ops : Array Oper) : List Bool → Nat → Array Bool → Bool
  | [], _, listed => (Region.ready md ops listed).isEmpty
  | true :: rest, k, listed => Region.free md ops listed k && (Region.ready md ops listed).contains k && tB md ops rest (k + 1) (listed.setIfInBounds k true)
  | false :: rest, k, listed => decide (Region.ready md ops listed = [k]) && tB md ops rest (k + 1) (listed.setIfInBounds k true)
theorem wpAny_T {md : Region.Mode} (hs : Region.noSelect ops = true) (hQ : ∀ c a a' w, Q (.panic c) a w → Q (.panic c) a' w) : ∀ (l : List (Bool × Oper)) (k : Nat) (listed : Array Bool) (a : Act) (w : World), (∀ j, (l[j]?).map (·.2) = ops[k + j]?) →
    tB md ops (l.map (·.1)) k listed = true → wpT P ops Q l a w → wpAny P md ops Q l.length listed a w
  | [], k, listed, a, w, _, hB, h => by
    refine wpAny_done ?_ h _
    simpa [tB] using hB
  | (true, o) :: l, k, listed, a, w, hl, hB, h => by
    have h0 : ops[k]? = some o := by simpa using (hl 0).symm
    have hr : ∀ j, (l[j]?).map (·.2) = ops[k + 1 + j]? := fun j => by
      have := hl (j + 1)
      rw [List.getElem?_cons_succ] at this
      rw [this, Nat.add_assoc, Nat.add_comm 1 j]
    simp only [List.map_cons, tB, Bool.and_eq_true] at hB
    obtain ⟨v, hy, h⟩ := h
    exact wpAny_take h0 hs hB.1.1 hB.1.2 (fun c a w => hQ c _ _ w) hy (wpAny_T hs hQ l (k + 1) _ _ w hr hB.2 h)
  | (false, o) :: l, k, listed, a, w, hl, hB, h => by
    have h0 : ops[k]? = some o := by simpa using (hl 0).symm
    have hr : ∀ j, (l[j]?).map (·.2) = ops[k + 1 + j]? := fun j => by
      have := hl (j + 1)
      rw [List.getElem?_cons_succ] at this
      rw [this, Nat.add_assoc, Nat.add_comm 1 j]
    simp only [List.map_cons, tB, Bool.and_eq_true, decide_eq_true_eq] at hB
    refine wpAny_all hB.1 (by simp) fun i hi => ?_
    obtain rfl : i = k := by simpa using hi
    refine wpOp_step h0 fun K' hK => ?_
    unfold wpT at h
    split at h
    · rename_i hw
      rw [if_pos hw]
      exact Oper.wp_mono (fun a w h => hK _ _ (wpAny_T hs hQ l (i + 1) _ a w hr hB.2 h)) h
    · rename_i hw
      rw [if_neg hw]
      exact hK _ _ (wpAny_T hs hQ l (i + 1) _ _ w hr hB.2 h)
/-- Q, and no panic -/
def noPan (Q : Exit → Act → World → Prop) : Exit → Act → World → Prop
  | .panic _, _, _ => False
  | e, a, w => Q e a w
theorem noPan_imp (e : Exit) (a : Act) (w : World) (h : noPan Q e a w) : Q e a w := by
  cases e <;> first | exact h | exact (h : False).elim
theorem wp_region_T {id : Nat} {a : Act} {w : World} {l : List Oper} (tags : List Bool) (hm : P.follows .mixedOrders = true)
    (hB : (Region.noSelect l.toArray && decide (tags.length = l.length) && tB .any l.toArray tags 0 (Array.replicate l.length false)) = true)
    (h : wpT P l.toArray (noPan Q) (tags.zip l) a w.drew) : (Code.region id l.toArray true).wp P Q a w := by
  refine Code.wp_mono noPan_imp ?_
  simp only [Bool.and_eq_true, decide_eq_true_eq] at hB
  obtain ⟨⟨hs, ht⟩, hB⟩ := hB
  refine wp_region_any hm ?_
  have h1 : (tags.zip l).map (·.1) = tags := List.map_fst_zip (by omega)
  have h2 : (tags.zip l).map (·.2) = l := List.map_snd_zip (by omega)
  have := wpAny_T (P := P) (Q := noPan Q) (md := .any) hs (fun _ _ _ _ h => h) (tags.zip l) 0 (Array.replicate l.length false) a w.drew (fun j => by rw [← List.getElem?_map, h2]; simp) (by rw [h1]; exact hB) h
  have hlen : (tags.zip l).length = l.toArray.size := by simp [ht]
  rw [hlen] at this
  simpa using this
variable {a : Act} {w : World} {rest : List (Bool × Oper)} {o : Oper}
theorem wpT_nil (h : Q .normal a w) : wpT P ops Q [] a w := h
theorem wpT_end (h : Q .normal a w) : wpT P ops (noPan Q) [] a w := h
theorem wpT_pure (h : ∀ K : Act → Prop, (∀ a, wpT P ops Q rest a w → K a) → if Region.wanted o (yielded ops a.tmps) then ∃ v, (∀ w, (execOp a.eval o).run P w = .ok (.value v) w) ∧ K (a.put o.dst v) else K (a.put o.dst undef)) :
    wpT P ops Q ((true, o) :: rest) a w := by
  have := h (fun a => wpT P ops Q rest a w) (fun _ h => h)
  by_cases hw : Region.wanted o (yielded ops a.tmps) = true
  · rw [if_pos hw] at this
    obtain ⟨v, h1, h2⟩ := this
    exact ⟨v, .inl ⟨hw, h1⟩, h2⟩
  · rw [if_neg hw] at this
    exact ⟨undef, .inr ⟨by simpa using hw, rfl⟩, this⟩
theorem wpT_one (h : ∀ K : Act → World → Prop, (∀ a w, wpT P ops Q rest a w → K a w) → if Region.wanted o (yielded ops a.tmps) then o.wp P a w K Q else K (a.put o.dst undef) w) : wpT P ops Q ((false, o) :: rest) a w := h _ (fun _ _ h => h)
theorem wpT_run {v : Value} {w' : World} (hw : Region.wanted o (yielded ops a.tmps) = true) (hr : (execOp a.eval o).run P w = .ok (.value v) w') (h : wpT P ops Q rest (a.put o.dst v) w') : wpT P ops Q ((false, o) :: rest) a w := by
  unfold wpT
  rw [if_pos hw]
  unfold Oper.wp
  rw [hr]
  exact h
theorem wpT_make {v : Value} {w' : World} (hw : Region.wanted o (yielded ops a.tmps) = true) (l c : Operand) (t : TypeId) (hop : o.op = Op.makeSlice t l c) (kl kc : IntKind) (L C : Int) (hl : a.eval l = .int kl L) (hc : a.eval c = .int kc C)
    (n : Nat) (hL : L = (n : Int)) (hC : C = (n : Int)) (hr : (Instr.makeSlice t (.int kl (n : Int)) (.int kc (n : Int))).run P w = .ok v w') (h : wpT P ops Q rest (a.put o.dst v) w') : wpT P ops Q ((false, o) :: rest) a w := by
  subst hL
  subst hC
  exact wpT_run hw (by simp [execOp, hop, hl, hc, hr, Result.andThen]) h
end
end Go.Proofs.Ytmbbmombhkaeoaa
