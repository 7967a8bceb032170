/-
  A range over a function, in the words of 'Fr': what the iterator is to have ('Seq'), and the law of the statement: the rounds' invariant J bears, with the count of rounds, the list of the blocks that the rounds may turn. No program in sight.
-/
import Derived.Test.YtmbbmombhkaeoaaMem
import Derived.RangeFuncNested
import Derived.RangeFuncLeaves
import Derived.RangeFuncCalls
namespace Go.Proofs.Ytmbbmombhkaeoaa
open Go Go.RowKit

theorem Fr.putObj {w : World} (l : Nat) (o : Obj) : Fr [l] w (w.putObj l o) := by
  have := Fr.of_grown (grownBy_putObj' w l o)
  simpa using this

/-- The iterator gf (its captured values lb), from the world w on: it hands out N rounds, or is told to stop. M: blocks of its own that it may turn; K: blocks that it reads. -/
def Seq (P : Program) (gf : Nat) (lb : Array Value) (M : List Nat) (K : Nat → Prop) (N : Nat) (enc : Nat → World → Array Value → Prop) (w : World) : Prop :=
  ∀ (l : Nat) (J : Nat → List Nat → World → Prop) (Jx : World → Prop) (fp : List Nat) (W : World), Fr [] w W → w.heap.size ≤ l → l < W.heap.size →
    (∀ k f A B M', J k f A → Fr M' A B → (∀ x ∈ M', x ∈ M ∨ (W.heap.size ≤ x ∧ x ∉ f)) → J k f B) →
    (∀ A B, Jx A → Fr [] A B → Jx B) →
    (∀ x ∈ fp, x < W.heap.size ∧ ¬ K x) → J 0 fp W →
    (∀ k f A args, k < N → J k f A → enc k A args → YieldAt Fence.wide 0 P l args A fun e B =>
      (e = .returned (.bool true) ∧ ∃ f', J (k + 1) f' B ∧ Fr f A B ∧ ∀ x ∈ f', x < B.heap.size ∧ (x ∈ f ∨ A.heap.size ≤ x)) ∨ (e = .returned (.bool false) ∧ Jx B)) →
    CallsIn Fence.wide 0 P gf (#[.func (.yield l) #[] #[]] ++ lb) W fun e W' => (∃ v, e = .returned v) ∧ ((∃ f, J N f W') ∨ Jx W')

/-- How a round's body may be left. -/
def seqPost (J : Nat → List Nat → World → Prop) (Jx : Code → List Nat → World → Prop) (k : Nat) (f : List Nat) (A : World) : Exit → Act → World → Prop
  | .normal, _, B => ∃ f', J (k + 1) f' B ∧ Fr f A B ∧ ∀ x ∈ f', x < B.heap.size ∧ (x ∈ f ∨ A.heap.size ≤ x)
  | .ret, _, B => ∃ f', Jx .ret f' B ∧ Fr f A B ∧ ∀ x ∈ f', x < B.heap.size ∧ (x ∈ f ∨ A.heap.size ≤ x)
  | .exit id, _, B => ∃ f', Jx (.exit id) f' B ∧ Fr f A B ∧ ∀ x ∈ f', x < B.heap.size ∧ (x ∈ f ∨ A.heap.size ≤ x)
  | .goto t, _, B => ∃ f', Jx (.goto t) f' B ∧ Fr f A B ∧ ∀ x ∈ f', x < B.heap.size ∧ (x ∈ f ∨ A.heap.size ≤ x)
  | .panic _, _, _ => False
  | .outgrown, _, _ => False

/-- The block of the rounds' deferred calls, among the activation's own. -/
abbrev markOf (D : Nat) : Deferred := { target := .collected D, args := #[] }

set_option maxHeartbeats 1000000 in
theorem wp_rangeFunc_seqL {P : Program} {g : Operand} {ps : Array Tmp} {assign body : Code} {Q : Exit → Act → World → Prop} {a : Act} {w : World} {gf : Nat} {lb : Array Value} {M : List Nat} {K : Nat → Prop} {N : Nat}
    {enc : Nat → World → Array Value → Prop} {w0 : World} (hg : a.eval g = .func (.func gf) #[] lb) (eg : ∀ args w, (callFunc gf args).run P w = .ok (.enter gf args) w) (hseq : Seq P gf lb M K N enc w0) (hw0 : Fr [] w0 w)
    (J : Nat → List Nat → World → Prop) (Jx : Code → List Nat → World → Prop) (fp : List Nat)
    (hst : ∀ k f A B M', J k f A → Fr M' A B → (∀ x ∈ M', x ∈ M ∨ (w.heap.size ≤ x ∧ x ∉ f)) → J k f B)
    (hsx : ∀ c f A B M', Jx c f A → Fr M' A B → (∀ x ∈ M', w.heap.size ≤ x ∧ x ∉ f) → Jx c f B)
    (hM : ∀ x ∈ M, x < w.heap.size) (hfp : ∀ x ∈ fp, x < w.heap.size ∧ ¬ K x) (h0 : J 0 fp w)
    (hround : ∀ l k f A args, w.heap.size < l → l < A.heap.size → l ∉ f → (∀ x ∈ f, x < A.heap.size) → k < N → J k f A → enc k A args → (∃ r, A.heap[l]? = some (.loop r)) → args.size = ps.size ∧
      assign.wpIn (Fence.wide.inRound l) 0 P (Exit.then (fun a₁ A₁ => J k f A₁ ∧ Fr [] A A₁ ∧ ∀ A₂, J k f A₂ → Fr [l] A₁ A₂ → A₂.heap.size = A₁.heap.size →
        body.wpIn (Fence.wide.inRound l) 0 P (seqPost J Jx k f A₂) a₁ A₂) (fun _ _ _ => False)) { tmps := (ps.zip args).foldl (fun t (p, v) => t.setIfInBounds p v) a.tmps, defers := [] } A)
    (hdone : ∀ D f W, w.heap.size ≤ D → D ∉ f → J N f W → W.heap[D]? = some (.deferred (some [])) → Q .normal { a with defers := markOf D :: a.defers } W)
    (hstop : ∀ D c f W, w.heap.size ≤ D → D ∉ f → Jx c f W → W.heap[D]? = some (.deferred (some [])) → c.wp P Q { a with defers := markOf D :: a.defers } W) :
    (Code.rangeFunc g ps assign body).wp P Q a w := by
  refine (wpIn_wide (n := 0)).1 (wpIn_rangeFunc ?_)
  intro fn hfn
  obtain ⟨rec, hrec⟩ : ∃ rec : LoopState → Option Code → Loop, rec = fun st pe => { state := st, pending := pe, fn, tmps := a.tmps, params := ps, assign, body, defers := w.heap.size } := ⟨_, rfl⟩
  obtain ⟨W1, hW1⟩ : ∃ W1, (w.alloc (.deferred (some []))).alloc (.loop (rec .ready none)) = W1 := ⟨_, rfl⟩
  have hL1 : W1.heap[w.heap.size + 1]? = some (.loop (rec .ready none)) := by
    rw [← hW1]; have := World.alloc_heap_new (w.alloc (.deferred (some []))) (.loop (rec .ready none)); rwa [World.size_alloc] at this
  have hK1 : W1.heap[w.heap.size]? = some (.deferred (some [])) := by
    rw [← hW1]; exact (Below.heap_alloc _ _ _ (by simp)).trans (World.alloc_heap_new w _)
  have hF1 : Fr [] w W1 := by rw [← hW1]; exact ((Fr.refl [] w).alloc _).alloc _
  have hs1 : W1.heap.size = w.heap.size + 2 := by rw [← hW1]; simp
  have hz := hw0.size
  have hj0 : J 0 fp W1 := hst 0 fp w W1 [] h0 hF1 (fun x h => by cases h)
  refine ⟨w.heap.size + 1, [markOf w.heap.size], W1, { target := .fn (.func gf) lb, args := #[.func (.yield (w.heap.size + 1)) #[] #[]] }, W1, gf,
    #[.func (.yield (w.heap.size + 1)) #[] #[]] ++ lb, W1, ?_, ?_, fun f' _ => trivial, ?_, fun h => (by cases h), ?_⟩
  · rw [← hW1, hrec]; exact run_enterLoop_outer _ _ _ _ _
  · simp only [resolve, hg]
    simp [go_sem]
  · simp [invoke, go_sem, eg]
  refine (hseq (w.heap.size + 1)
    (fun k f W => J k f W ∧ (w.heap.size ∉ f ∧ w.heap.size + 1 ∉ f ∧ ∀ x ∈ f, x < W.heap.size) ∧ W.heap[w.heap.size + 1]? = some (.loop (rec .ready none)) ∧ W.heap[w.heap.size]? = some (.deferred (some [])))
    (fun W => ∃ c f, Jx c f W ∧ (w.heap.size ∉ f ∧ w.heap.size + 1 ∉ f) ∧ W.heap[w.heap.size + 1]? = some (.loop (rec .done (some c))) ∧ W.heap[w.heap.size]? = some (.deferred (some [])))
    fp W1 (hw0.trans0 hF1) (by omega) (by omega) ?_ ?_ (fun x hx => ⟨by have := (hfp x hx).1; omega, (hfp x hx).2⟩) ⟨hj0, ⟨fun h => by have := (hfp _ h).1; omega, fun h => by have := (hfp _ h).1; omega, fun x hx => by have := (hfp x hx).1; omega⟩, hL1, hK1⟩ ?_).mono ?_
  · rintro k f A B M' ⟨hj, ⟨hd, hl, hlt⟩, hL, hK⟩ hF hM'
    have nl : ∀ x, x = w.heap.size ∨ x = w.heap.size + 1 → x ∉ M' := fun x hx hm => by
      rcases hM' x hm with h | ⟨h, _⟩
      · have := hM x h; omega
      · omega
    exact ⟨hst k f A B M' hj hF (fun x hx => (hM' x hx).imp id (fun h => ⟨by omega, h.2⟩)), ⟨hd, hl, fun x hx => Nat.lt_of_lt_of_le (hlt x hx) hF.size⟩,
      (hF.block _ (Array.getElem?_eq_some_iff.1 hL).1 (nl _ (.inr rfl))).trans hL, (hF.block _ (Array.getElem?_eq_some_iff.1 hK).1 (nl _ (.inl rfl))).trans hK⟩
  · rintro A B ⟨c, f, hj, hd, hL, hK⟩ hF
    exact ⟨c, f, hsx c f A B [] hj hF (fun x h => by cases h), hd, (hF.block _ (Array.getElem?_eq_some_iff.1 hL).1 (by simp)).trans hL, (hF.block _ (Array.getElem?_eq_some_iff.1 hK).1 (by simp)).trans hK⟩
  · rintro k f A args hkN ⟨hj, ⟨hd, hl, hlt⟩, hL, hK⟩ henc
    have hlA : w.heap.size + 1 < A.heap.size := (Array.getElem?_eq_some_iff.1 hL).1
    obtain ⟨hsz, hwalk⟩ := hround (w.heap.size + 1) k f A args (by omega) hlA hl hlt hkN hj henc ⟨_, hL⟩
    have hy := run_yield (P := P) (args := args) hL (by rw [hrec]; exact hsz)
    rw [hrec] at hy
    refine ⟨fn, _, assign, body, hy, roundIn_of_wpIn hfn (wpIn_mono hwalk ?_)⟩
    rintro e a₁ A₁ h
    cases e with
    | normal =>
      obtain ⟨hj1, hFA, hbody⟩ := h
      have hL' := (hFA.block _ hlA (by simp)).trans hL
      have hK' := (hFA.block _ (Array.getElem?_eq_some_iff.1 hK).1 (by simp)).trans hK
      have hlA1 : w.heap.size + 1 < A₁.heap.size := (Array.getElem?_eq_some_iff.1 hL').1
      refine ⟨_, run_beginRound hL' (by rw [hrec]), ?_⟩
      have hFb : Fr [w.heap.size + 1] A₁ (A₁.putObj (w.heap.size + 1) (.loop { rec .ready none with state := .busy })) := Fr.putObj _ _
      have hj2 := hst k f _ _ _ hj1 hFb (fun x hx => by have := List.mem_singleton.1 hx; subst this; exact .inr ⟨by omega, hl⟩)
      refine wpIn_mono (hbody _ hj2 hFb (by simp)) ?_
      have hL2 : (A₁.putObj (w.heap.size + 1) (.loop { rec .ready none with state := .busy })).heap[w.heap.size + 1]? = some (.loop { rec .ready none with state := .busy }) := World.putObj_heap_same hlA1
      have hK2 : (A₁.putObj (w.heap.size + 1) (.loop { rec .ready none with state := .busy })).heap[w.heap.size]? = some (.deferred (some [])) := (World.putObj_heap_other (by omega)).trans hK'
      generalize hA2 : A₁.putObj (w.heap.size + 1) (.loop { rec .ready none with state := .busy }) = A₂ at *
      have hsz2 : A₂.heap.size = A₁.heap.size := by rw [← hA2]; simp
      have fin : ∀ (jump : Option Code) (B : World), Fr f A₂ B →
          (Instr.endRound (w.heap.size + 1) jump).run P B = .ok (.bool jump.isNone) (B.putObj (w.heap.size + 1) (.loop (rec (if jump.isNone then .ready else .done) jump))) ∧
          (B.putObj (w.heap.size + 1) (.loop (rec (if jump.isNone then .ready else .done) jump))).heap[w.heap.size + 1]? = some (.loop (rec (if jump.isNone then .ready else .done) jump)) ∧
          (B.putObj (w.heap.size + 1) (.loop (rec (if jump.isNone then .ready else .done) jump))).heap[w.heap.size]? = some (.deferred (some [])) := fun jump B hB => by
        have hL3 := (hB.block _ (by omega) hl).trans hL2
        have hK3 := (hB.block _ (by omega) hd).trans hK2
        have := run_endRound (P := P) jump hL3
        rw [hrec] at this ⊢
        exact ⟨this, World.putObj_heap_same (Array.getElem?_eq_some_iff.1 hL3).1, (World.putObj_heap_other (by omega)).trans hK3⟩
      have grow : ∀ (B : World) (f' : List Nat), Fr f A₂ B → (∀ x ∈ f', x < B.heap.size ∧ (x ∈ f ∨ A₂.heap.size ≤ x)) → w.heap.size ∉ f' ∧ w.heap.size + 1 ∉ f' := fun B f' _ hf' =>
        ⟨fun h => by rcases (hf' _ h).2 with h | h; exact hd h; omega, fun h => by rcases (hf' _ h).2 with h | h; exact hl h; omega⟩
      rintro e a₃ B hp
      have leave : ∀ (c : Code) (f' : List Nat), Jx c f' B → Fr f A₂ B → (∀ x ∈ f', x < B.heap.size ∧ (x ∈ f ∨ A₂.heap.size ≤ x)) →
          ∃ v W', (Instr.endRound (w.heap.size + 1) (some c)).run P B = .ok v W' ∧ v = .bool false ∧
            ∃ c f, Jx c f W' ∧ (w.heap.size ∉ f ∧ w.heap.size + 1 ∉ f) ∧ W'.heap[w.heap.size + 1]? = some (.loop (rec .done (some c))) ∧ W'.heap[w.heap.size]? = some (.deferred (some [])) := fun c f' hx hFB hg' => by
        obtain ⟨hr, hl3, hk3⟩ := fin (some c) B hFB
        have hn := grow B f' hFB hg'
        exact ⟨_, _, hr, rfl, c, f', hsx c f' _ _ _ hx (Fr.putObj _ _) (fun x hx => by have := List.mem_singleton.1 hx; subst this; exact ⟨by omega, hn.2⟩), hn, hl3, hk3⟩
      cases e with
      | normal =>
        obtain ⟨f', hj3, hFB, hg'⟩ := hp
        obtain ⟨hr, hl3, hk3⟩ := fin none B hFB
        have hn := grow B f' hFB hg'
        refine ⟨_, _, hr, .inl ⟨rfl, f', ⟨hst (k + 1) f' _ _ _ hj3 (Fr.putObj _ _) (fun x hx => by have := List.mem_singleton.1 hx; subst this; exact .inr ⟨by omega, hn.2⟩),
          ⟨hn.1, hn.2, fun x hx => by have := (hg' x hx).1; simpa using this⟩, hl3, hk3⟩, ?_, fun x hx => ?_⟩⟩
        · have q1 := hFA.size
          have q2 := hFB.size
          refine ⟨hFB.os.trans (hFb.os.trans hFA.os), hFB.tape.trans (hFb.tape.trans hFA.tape), hFB.output.trans (hFb.output.trans hFA.output), by simp; omega, fun x hx hxf => ?_⟩
          by_cases hxl : x = w.heap.size + 1
          · subst hxl
            exact hl3.trans hL.symm
          · exact (World.putObj_heap_other hxl).trans ((hFB.block x (by omega) hxf).trans ((hFb.block x (by omega) (by simp [hxl])).trans (hFA.block x hx (by simp))))
        · have := hg' x hx
          have q1 := hFA.size
          exact ⟨by simpa using this.1, this.2.imp id (fun h => by omega)⟩
      | ret =>
        obtain ⟨f', hx, hFB, hg'⟩ := hp
        obtain ⟨v, W', hr, hv, hrest⟩ := leave _ f' hx hFB hg'
        exact ⟨v, W', hr, .inr ⟨by rw [hv], hrest⟩⟩
      | exit id =>
        obtain ⟨f', hx, hFB, hg'⟩ := hp
        obtain ⟨v, W', hr, hv, hrest⟩ := leave _ f' hx hFB hg'
        exact ⟨v, W', hr, .inr ⟨by rw [hv], hrest⟩⟩
      | goto t =>
        obtain ⟨f', hx, hFB, hg'⟩ := hp
        obtain ⟨v, W', hr, hv, hrest⟩ := leave _ f' hx hFB hg'
        exact ⟨v, W', hr, .inr ⟨by rw [hv], hrest⟩⟩
      | panic ch => exact hp.elim
      | outgrown => exact hp.elim
    | ret => exact h.elim
    | exit id => exact h.elim
    | goto t => exact h.elim
    | panic ch => exact h.elim
    | outgrown => exact h.elim
  · rintro e W2 ⟨⟨v, rfl⟩, (⟨f, hj, ⟨hd, hl, _⟩, hL, hK⟩ | ⟨c, f, hx, ⟨hd, hl⟩, hL, hK⟩)⟩
    · have he := run_endLoop (P := P) hL (by rw [hrec]; simp)
      rw [hrec] at he
      exact ⟨none, _, he, hdone _ f _ (Nat.le_refl _) hd (hst N f _ _ _ hj (Fr.putObj _ _) (fun x hx => by have := List.mem_singleton.1 hx; subst this; exact .inr ⟨by omega, hl⟩)) ((World.putObj_heap_other (by omega)).trans hK)⟩
    · have he := run_endLoop (P := P) hL (by rw [hrec]; simp)
      rw [hrec] at he
      exact ⟨some c, _, he, wpIn_wide.2 (hstop _ c f _ (Nat.le_refl _) hd (hsx c f _ _ _ hx (Fr.putObj _ _) (fun x hx => by have := List.mem_singleton.1 hx; subst this; exact ⟨by omega, hl⟩)) ((World.putObj_heap_other (by omega)).trans hK))⟩
set_option maxHeartbeats 1000000 in
theorem wp_rangeFunc_seq {P : Program} {g : Operand} {ps : Array Tmp} {assign body : Code} {Q : Exit → Act → World → Prop} {a : Act} {w : World} {gf : Nat} {lb : Array Value} {M : List Nat} {K : Nat → Prop} {N : Nat}
    {enc : Nat → World → Array Value → Prop} {w0 : World} (hg : a.eval g = .func (.func gf) #[] lb) (eg : ∀ args w, (callFunc gf args).run P w = .ok (.enter gf args) w) (hseq : Seq P gf lb M K N enc w0) (hw0 : Fr [] w0 w)
    (J : Nat → List Nat → World → Prop) (Jx : Code → List Nat → World → Prop) (fp : List Nat)
    (hst : ∀ k f A B M', J k f A → Fr M' A B → (∀ x ∈ M', x ∈ M ∨ (w.heap.size ≤ x ∧ x ∉ f)) → J k f B)
    (hsx : ∀ c f A B M', Jx c f A → Fr M' A B → (∀ x ∈ M', w.heap.size ≤ x ∧ x ∉ f) → Jx c f B)
    (hM : ∀ x ∈ M, x < w.heap.size) (hfp : ∀ x ∈ fp, x < w.heap.size ∧ ¬ K x) (h0 : J 0 fp w)
    (hround : ∀ l k f A args, w.heap.size < l → l < A.heap.size → l ∉ f → (∀ x ∈ f, x < A.heap.size) → k < N → J k f A → enc k A args → args.size = ps.size ∧
      assign.wpIn (Fence.wide.inRound l) 0 P (Exit.then (fun a₁ A₁ => J k f A₁ ∧ Fr [] A A₁ ∧ ∀ A₂, J k f A₂ → Fr [l] A₁ A₂ → A₂.heap.size = A₁.heap.size →
        body.wpIn (Fence.wide.inRound l) 0 P (seqPost J Jx k f A₂) a₁ A₂) (fun _ _ _ => False)) { tmps := (ps.zip args).foldl (fun t (p, v) => t.setIfInBounds p v) a.tmps, defers := [] } A)
    (hdone : ∀ D f W, w.heap.size ≤ D → D ∉ f → J N f W → W.heap[D]? = some (.deferred (some [])) → Q .normal { a with defers := markOf D :: a.defers } W)
    (hstop : ∀ D c f W, w.heap.size ≤ D → D ∉ f → Jx c f W → W.heap[D]? = some (.deferred (some [])) → c.wp P Q { a with defers := markOf D :: a.defers } W) :
    (Code.rangeFunc g ps assign body).wp P Q a w :=
  wp_rangeFunc_seqL hg eg hseq hw0 J Jx fp hst hsx hM hfp h0 (fun l k f A args h1 h2 h3 h4 h5 h6 h7 _ => hround l k f A args h1 h2 h3 h4 h5 h6 h7) hdone hstop
/-! ### a function that holds such a statement: its entering, its leaving; what the rounds' invariant abides -/
theorem calls_marks {P : Program} {f : FuncId} {fn : Func} {c : Code} {args : Array Value} {w : World} {R : Ending → World → Prop} (hf : P.funcs[f]? = some fn) (hb : fn.body = some c)
    (h : c.wp P (bodyPostM Fence.wide 0 P fn R) { tmps := args ++ Array.replicate (fn.ntmps - args.size) undef, defers := [] } w) : Calls P f args w R :=
  callsIn_wide.1 (callsIn_of_wp_marks (n := 0) hf hb trivial (wpIn_wide.2 h))
theorem leave_mark {P : Program} {fn : Func} {R : Ending → World → Prop} {a : Act} {W : World} {D : Nat} {v : Value} (hd : a.defers = [markOf D]) (hK : W.heap[D]? = some (.deferred (some [])))
    (hr : ∀ W', Fr [D] W W' → (results fn a.tmps).run P W' = .ok v W') (hR : ∀ W', Fr [D] W W' → R (.returned v) W') : bodyPostM Fence.wide 0 P fn R .ret a W := by
  show LeavesInM Fence.wide 0 P fn a.tmps R a.defers FrameMode.returning W
  rw [hd]
  exact ⟨by simp, .inl ⟨D, _, rfl, run_takeDeferred hK, v, hr _ (Fr.putObj _ _), hR _ (Fr.putObj _ _)⟩⟩
theorem leave_plain {P : Program} {fn : Func} {R : Ending → World → Prop} {a : Act} {W : World} {v : Value} (hd : a.defers = []) (hr : (results fn a.tmps).run P W = .ok v W) (hR : R (.returned v) W) : bodyPostM Fence.wide 0 P fn R .ret a W := by
  show LeavesInM Fence.wide 0 P fn a.tmps R a.defers FrameMode.returning W
  rw [hd]
  exact ⟨v, hr, hR⟩
section
variable {M M' f : List Nat} {s : Nat} {A B : World}
theorem stab_fr {w : World} (h : Fr [] w A) (k : Fr M' A B) (hM : ∀ x ∈ M', x ∈ M ∨ (s ≤ x ∧ x ∉ f)) (hs : w.heap.size ≤ s) (hm : ∀ x ∈ M, w.heap.size ≤ x) : Fr [] w B :=
  h.trans k (fun x hx hl => by rcases hM x hx with h1 | h1; have := hm x h1; omega; omega)
theorem stab_blk {b : Nat} {cs : List Value} {t : TypeId} (h : Blk A b cs t) (k : Fr M' A B) (hM : ∀ x ∈ M', x ∈ M ∨ (s ≤ x ∧ x ∉ f)) (hb : b < s) (hm : b ∉ M) : Blk B b cs t :=
  h.fr k (fun hx => by rcases hM b hx with h1 | h1; exact hm h1; omega)
theorem stab_own {base n size : Nat} {e : TypeId} {v : Value} {xs : List Value} (h : A.ownsRow base e size v n xs) (k : Fr M' A B) (hM : ∀ x ∈ M', x ∈ M ∨ (s ≤ x ∧ x ∉ f)) (hv : ∀ x, v.ownBlock = some x → x ∈ f ∧ x ∉ M) : B.ownsRow base e size v n xs :=
  owns_fr h k (fun x hx hm => by rcases hM x hm with h1 | h1; exact (hv x hx).2 h1; exact h1.2 (hv x hx).1)
end
end Go.Proofs.Ytmbbmombhkaeoaa
