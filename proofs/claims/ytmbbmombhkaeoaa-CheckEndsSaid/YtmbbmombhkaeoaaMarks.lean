/-
  The marks that ranges over functions leave, when they stand in a loop: many of them; the function's leaving. No program in sight.
-/
import Derived.Test.YtmbbmombhkaeoaaSeq
namespace Go.Proofs.Ytmbbmombhkaeoaa
open Go Go.RowKit

/-- The marks of ranges that have ended, all from block s on. -/
structure Marks (s : Nat) (Ds : List Nat) (W : World) : Prop where
  nodup : Ds.Nodup
  ge : ∀ D ∈ Ds, s ≤ D
  held : ∀ D ∈ Ds, W.heap[D]? = some (.deferred (some []))
theorem Marks.nil (s : Nat) (W : World) : Marks s [] W := ⟨List.nodup_nil, fun _ h => (by cases h), fun _ h => (by cases h)⟩
theorem Marks.lt {s : Nat} {Ds : List Nat} {W : World} (h : Marks s Ds W) : ∀ D ∈ Ds, D < W.heap.size := fun D hD => (Array.getElem?_eq_some_iff.1 (h.held D hD)).1
theorem Marks.fr {s : Nat} {Ds M : List Nat} {W W' : World} (h : Marks s Ds W) (hf : Fr M W W') (hM : ∀ D ∈ Ds, D ∉ M) : Marks s Ds W' :=
  ⟨h.nodup, h.ge, fun D hD => (hf.block D (h.lt D hD) (hM D hD)).trans (h.held D hD)⟩
theorem Marks.fr0 {s : Nat} {Ds : List Nat} {W W' : World} (h : Marks s Ds W) (hf : Fr [] W W') : Marks s Ds W' := h.fr hf (fun _ _ => by simp)
theorem Marks.cons {s D : Nat} {Ds : List Nat} {W : World} (h : Marks s Ds W) (hD : W.heap[D]? = some (.deferred (some []))) (hs : s ≤ D) (hn : D ∉ Ds) : Marks s (D :: Ds) W :=
  ⟨List.nodup_cons.2 ⟨hn, h.nodup⟩, fun x hx => by rcases List.mem_cons.1 hx with rfl | hx; exact hs; exact h.ge x hx, fun x hx => by rcases List.mem_cons.1 hx with rfl | hx; exact hD; exact h.held x hx⟩
theorem leaves_marks {P : Program} {fn : Func} {tmps : Array Value} {R : Ending → World → Prop} {s : Nat} {v : Value} : ∀ (Ds : List Nat) (W : World), Marks s Ds W →
    (∀ W', Fr Ds W W' → (results fn tmps).run P W' = .ok v W') → (∀ W', Fr Ds W W' → R (.returned v) W') → LeavesInM Fence.wide 0 P fn tmps R (Ds.map markOf) FrameMode.returning W
  | [], W, _, hr, hR => ⟨v, hr W (Fr.refl _ _), hR W (Fr.refl _ _)⟩
  | D :: Ds, W, h, hr, hR => by
    have hn := List.nodup_cons.1 h.nodup
    refine ⟨by simp, .inl ⟨D, _, rfl, run_takeDeferred (h.held D List.mem_cons_self), leaves_marks (s := s) Ds _ ⟨hn.2, fun x hx => h.ge x (List.mem_cons_of_mem _ hx), fun x hx => ?_⟩ (fun W' hf => hr W' ?_) (fun W' hf => hR W' ?_)⟩⟩
    · have hne : x ≠ D := fun e => hn.1 (e ▸ hx)
      exact (Fr.putObj D _).block x (h.lt x (List.mem_cons_of_mem _ hx)) (by simpa using hne) |>.trans (h.held x (List.mem_cons_of_mem _ hx))
    · exact ((Fr.putObj (w := W) D _).mono (fun x hx _ => by have := List.mem_singleton.1 hx; subst this; exact List.mem_cons_self)).trans hf (fun x hx _ => List.mem_cons_of_mem _ hx)
    · exact ((Fr.putObj (w := W) D _).mono (fun x hx _ => by have := List.mem_singleton.1 hx; subst this; exact List.mem_cons_self)).trans hf (fun x hx _ => List.mem_cons_of_mem _ hx)
theorem leave_marks {P : Program} {fn : Func} {R : Ending → World → Prop} {a : Act} {W : World} {s : Nat} {Ds : List Nat} {v : Value} (hd : a.defers = Ds.map markOf) (h : Marks s Ds W)
    (hr : ∀ W', Fr Ds W W' → (results fn a.tmps).run P W' = .ok v W') (hR : ∀ W', Fr Ds W W' → R (.returned v) W') : bodyPostM Fence.wide 0 P fn R .ret a W := by
  show LeavesInM Fence.wide 0 P fn a.tmps R a.defers FrameMode.returning W
  rw [hd]
  exact leaves_marks Ds W h hr hR
end Go.Proofs.Ytmbbmombhkaeoaa
