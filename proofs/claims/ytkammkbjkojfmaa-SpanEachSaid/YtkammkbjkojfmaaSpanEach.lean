/-
  law09.SpanEach: the walk.
-/
import Derived.Test.YtkammkbjkojfmaaSpAl
import Derived.Test.YtkammkbjkojfmaaSpF
namespace Go.Proofs.Ytkammkbjkojfmaa
open Go.RowKit Go.Maps
attribute [local go_sem] Oper.semAt_some

/-- a function against nil -/
theorem eql_func_nil {P : Program} {t : TypeId} {a : Array TypeId} {b : Array TypeId} {c : Bool} (h : P.underlying t = some (.func a b c)) (w : World) (f : Fn) (x y : Array Value) : (binOp .eql t (.func f x y) .nilFunc).run P w = .ok (.bool false) w := by
  have h0 : ∀ d : Nat, (Op.equalIn (d + 1) t (.func f x y) .nilFunc).run P w = .ok false w := fun d => by
    simp [Op.equalIn, run_underlying h]
  simp only [binOp]
  simp [show Op.equal t (.func f x y) .nilFunc = Op.equalIn (9999 + 1) t (.func f x y) .nilFunc from rfl, h0]
/-- a row of extents is none of these blocks -/
theorem ext_apart {w A : World} {v : Value} {xs : List Op3} {L : List Nat} (h : SlP w v xs) (hf : Fr L w A) (hL : ∀ x ∈ L, x < w.heap.size → ∃ b, Blk w x [.bool b] 4) : SlP A v xs := by
  obtain ⟨a, cap, rfl, h1, h2, hc⟩ := h
  refine ⟨a, cap, rfl, h1, h2, ?_⟩
  cases xs with
  | nil => exact .inl rfl
  | cons x xs =>
    rcases hc with he | ⟨b, off, rfl, hb, hc⟩
    · simp at he
    · refine SlC.fr (.inr ⟨b, off, rfl, hb, hc⟩) hf fun p hp hm => ?_
      cases hp
      obtain ⟨q, hq⟩ := hL b hm hb
      have h0 := hc 0 (.int .i64 x.1) (by simp)
      rw [Nat.add_zero, hq.cell off] at h0
      have := List.mem_of_getElem? h0
      simp at this
set_option maxRecDepth 100000 in
set_option maxHeartbeats 3200000 in
theorem SpanEach_any (w : World) (v : Value) (l : List Op3) (hv : SlP w v l) (_ : okV v) (kind : Int) (_ : -9223372036854775808 ≤ kind ∧ kind ≤ 9223372036854775807) (stop : Int) (_ : -9223372036854775808 ≤ stop ∧ stop ≤ 9223372036854775807) :
    Calls Try.prog 5 #[v, .int .i64 kind, .int .i64 stop] w fun e w' => e = .returned (.bool true) ∧ Fr [] w w' := by
  have hxl := ofKind_len l kind
  have keyO := fun v w hv h => rOnly_calls v l kind w hv h
  have keyS := fun bl bk vl w h1 h2 h3 => each_seq bl bk vl l kind w h1 h2 h3
  obtain ⟨a, cap, rfl, _, _, _⟩ := hv.open
  generalize ofKind l kind = xs at *
  have B5 := (Blk.new w [.int .i64 stop] 3).alloc (.cells #[.bool false] 4)
  have B6 := Blk.new' (w := w.alloc (.cells #[.int .i64 stop] 3)) (n := w.heap.size + 1) (by simp) [.bool false] 4
  have hF0 := ((Fr.refl [] w).alloc (.cells #[.int .i64 stop] 3)).alloc (.cells #[.bool false] 4)
  refine calls_marks Try.func5 rfl ?_
  simp only [Try.ntmps5, List.size_toArray, List.length_cons, List.length_nil, Nat.reduceAdd, Nat.reduceSub, Array.replicate_succ, Array.replicate_zero, List.push_toArray, List.append_toArray, List.nil_append, List.cons_append]
  go_wp2_with fail
  refine (fewL_calls _ l _ (SlF.fr0 hv hF0)).mono ?_
  rintro e w1 ⟨B, rfl, hB, hf1⟩
  replace B5 := B5.fr0 hf1
  replace B6 := B6.fr0 hf1
  have hF1 := hF0.trans0 hf1
  clear hF0 hf1
  cases B
  · clear hB
    go_wp2_with fail
    refine (aliveL_calls _).mono ?_
    rintro e w2 ⟨rfl, hf2⟩
    replace B6 := B6.fr0 hf2
    have c6 := B6.cell
    have f6 := B6.frozen
    have l6 := B6.lt
    go_wp2
    have c6' := (B6.setCell 0 (.bool true)).cell
    exact leave_plain (v := .bool true) rfl (by simp [results, Try.results5, go_sem, c6']) ⟨rfl, (hF1.trans0 hf2).setCell (.inr (by simp)) _⟩
  have hl := (hB rfl).kinds
  clear hB
  go_wp2_with fail
  refine (keyO _ _ (SlF.fr0 hv hF1) (by omega)).mono ?_
  rintro e w2 ⟨vw, rfl, hw2, hf2⟩
  obtain ⟨aw, cw, rfl, _, hcw, _⟩ := hw2.open
  unfold maxLen at hcw
  replace B5 := B5.fr0 hf2
  replace B6 := B6.fr0 hf2
  have hF2 := hF1.trans0 hf2
  have B7 := (Blk.new w2 [.slice aw xs.length cw] 22).alloc (.cells #[.int .i64 0] 3)
  have B8 := Blk.new' (w := w2.alloc (.cells #[.slice aw xs.length cw] 22)) (n := w2.heap.size + 1) (by simp) [.int .i64 0] 3
  have hfa := ((Fr.refl [] w2).alloc (.cells #[.slice aw xs.length cw] 22)).alloc (.cells #[.int .i64 0] 3)
  have hFa := hF2.trans0 hfa
  have hz2 := hF2.size
  have l5 := B5.lt
  have l6 := B6.lt
  clear keyO hF1 hf2
  go_wp2_with fail
  refine (sEach_calls _ kind a l.length cap rfl _).mono ?_
  rintro e w3 ⟨bl, bk, rfl, hbl, hbk, hf3, hb1, hb2⟩
  have hG3 := hfa.trans0 hf3
  replace B5 := B5.fr0 hG3
  have B6w := B6
  replace B6 := B6.fr0 hG3
  replace B7 := B7.fr0 hf3
  replace B8 := B8.fr0 hf3
  have hF3 := hF2.trans0 hG3
  have hz3 := hG3.size
  have l7 := B7.lt
  have l8 := B8.lt
  have lk := hbk.lt
  simp only [World.size_alloc] at hb1 hb2
  have hseq := keyS _ _ _ w3 hbl hbk (SlF.fr0 hv hF3)
  clear keyS hfa hf3 hbl hbk hFa
  have heg : ∀ args w, (callFunc 39 args).run Try.prog w = .ok (.enter 39 args) w := enters_of Try.func39 (by kernel_rfl) rfl
  have hwant : ∀ A, Fr [w.heap.size + 1, w2.heap.size + 1] w2 A → SlP A (.slice aw xs.length cw) xs := fun A h => ext_apart hw2 h (fun x hx hlt => by
    rcases List.mem_cons.1 hx with rfl | hx
    · exact ⟨_, B6w⟩
    · have := List.mem_singleton.1 hx; omega)
  have hnil := fun w f x y => eql_func_nil (P := Try.prog) (t := 35) Try.underlying35 w f x y
  go_wp2_with fail
  refine wp_rangeFunc_seq rfl heg hseq (Fr.refl _ _) (fun k f A => f = [w.heap.size + 1, w2.heap.size + 1] ∧ Blk A (w.heap.size + 1) [.bool false] 4 ∧ Blk A (w2.heap.size + 1) [.int .i64 k] 3 ∧ Blk A w.heap.size [.int .i64 stop] 3 ∧ Blk A w2.heap.size [.slice aw xs.length cw] 22 ∧ Fr [w.heap.size + 1, w2.heap.size + 1] w2 A)
    (fun c f A => c = .exit 0 ∧ f = [w.heap.size + 1, w2.heap.size + 1] ∧ Blk A (w.heap.size + 1) [.bool false] 4 ∧ Blk A (w2.heap.size + 1) [.int .i64 stop] 3 ∧ Blk A w.heap.size [.int .i64 stop] 3 ∧ Blk A w2.heap.size [.slice aw xs.length cw] 22 ∧ Fr [w.heap.size + 1, w2.heap.size + 1] w2 A) [w.heap.size + 1, w2.heap.size + 1] ?st ?sx (by simp)
    (fun x hx => by rcases List.mem_cons.1 hx with rfl | hx; exact ⟨by omega, fun h => by omega⟩; have := List.mem_singleton.1 hx; subst this; exact ⟨by omega, fun h => by omega⟩) ⟨rfl, B6, B8, B5, B7, hG3.weak⟩ ?round ?done ?stop
  case st =>
    rintro k f A B M' ⟨rfl, h6, h8, h5, h7, hf⟩ hF hM
    exact ⟨rfl, stab_blk h6 hF hM (by omega) (by simp), stab_blk h8 hF hM (by omega) (by simp), stab_blk h5 hF hM (by omega) (by simp), stab_blk h7 hF hM (by omega) (by simp), hf.trans hF (fun x hx hlt => by rcases hM x hx with h | h; cases h; omega)⟩
  case sx =>
    rintro c f A B M' ⟨rfl, rfl, h6, h8, h5, h7, hf⟩ hF hM
    have hM' : ∀ x ∈ M', x ∈ ([] : List Nat) ∨ (w3.heap.size ≤ x ∧ x ∉ [w.heap.size + 1, w2.heap.size + 1]) := fun x hx => .inr (hM x hx)
    exact ⟨rfl, rfl, stab_blk h6 hF hM' (by omega) (by simp), stab_blk h8 hF hM' (by omega) (by simp), stab_blk h5 hF hM' (by omega) (by simp), stab_blk h7 hF hM' (by omega) (by simp), hf.trans hF (fun x hx hlt => by have := (hM x hx).1; omega)⟩
  case round =>
    rintro lp k f A args h1 h2 h3 h4 hk ⟨hfe, h6, h8, h5, h7, hf⟩ rfl
    refine ⟨rfl, ?_⟩
    clear hseq heg
    generalize hx : xs.getD k z3 = x at *
    obtain ⟨p, q, r⟩ := x
    gi_wp2
    refine ⟨⟨hfe, h6, h8, h5, h7, hf⟩, Fr.refl _ _, ?_⟩
    clear h6 h8 h5 h7 hf hfe
    rintro A2 ⟨rfl, h6, h8, h5, h7, hf⟩ hF2 hsz2
    have hA2 : w3.heap.size ≤ A2.heap.size := by omega
    clear hsz2 hF2
    obtain ⟨b, off, rfl, hb, c0, c1, c2⟩ := SlP.at (hwant A2 hf) hk
    rw [hx] at c0 c1 c2
    simp only at c0 c1 c2
    have d8 := h8.cell
    have f8 := h8.frozen
    have d5 := h5.cell
    have d7 := h7.cell
    have hkl : ¬ (xs.length : Int) ≤ (k : Int) := by omega
    have hw1 : IntKind.i64.wrap ((k : Int) + 1) = ((k + 1 : Nat) : Int) := by rw [IntWalk.i64_in _ (by omega)]; omega
    clear hx hwant
    by_cases hst : ((k + 1 : Nat) : Int) = stop
    · have hcell5 : (A2.setCell ⟨w2.heap.size + 1, 0, none⟩ (.int .i64 stop)).cell? ⟨w.heap.size, 0, none⟩ = some (.int .i64 stop) := (h5.other (p := ⟨w2.heap.size + 1, 0, none⟩) (by simp; omega) _).cell 0
      rw [hst] at hw1
      gi_wp2
      exact ⟨_, ⟨rfl, rfl, h6.other (by simp; omega) _, h8.setCell 0 _, h5.other (by simp; omega) _, h7.other (by simp) _, hf.setCell (.inl (by simp)) _⟩, (Fr.refl _ _).setCell (.inl (by simp)) _, fun y hy => ⟨by simp; rcases List.mem_cons.1 hy with rfl | hy; omega; have := List.mem_singleton.1 hy; omega, .inl hy⟩⟩
    · have hcell5 : (A2.setCell ⟨w2.heap.size + 1, 0, none⟩ (.int .i64 ((k + 1 : Nat) : Int))).cell? ⟨w.heap.size, 0, none⟩ = some (.int .i64 stop) := (h5.other (p := ⟨w2.heap.size + 1, 0, none⟩) (by simp; omega) _).cell 0
      have hbs : (((k + 1 : Nat) : Int) == stop) = false := by simpa using hst
      gi_wp2
      exact ⟨_, ⟨rfl, h6.other (by simp; omega) _, h8.setCell 0 _, h5.other (by simp; omega) _, h7.other (by simp) _, hf.setCell (.inl (by simp)) _⟩, (Fr.refl _ _).setCell (.inl (by simp)) _, fun y hy => ⟨by simp; rcases List.mem_cons.1 hy with rfl | hy; omega; have := List.mem_singleton.1 hy; omega, .inl hy⟩⟩
  case done =>
    rintro D f W h1 h2 ⟨rfl, h6, h8, h5, h7, hf⟩ hK
    clear hseq heg hwant
    have hfw : Fr [w.heap.size + 1] w W := hF2.weak.trans hf (fun x hx hlt => by rcases List.mem_cons.1 hx with rfl | hx; simp; have := List.mem_singleton.1 hx; omega)
    have hfw0 : Fr [] w W := hfw.mono (fun x hx hlt => by have := List.mem_singleton.1 hx; omega)
    go_wp2_with fail
    refine (aliveL_calls _).mono ?_
    rintro e w4 ⟨rfl, hf4⟩
    have d6 := h6.fr0 hf4
    have d5 := (h5.fr0 hf4).cell
    have d7 := (h7.fr0 hf4).cell
    have d8 := (h8.fr0 hf4).cell
    have c6 := d6.cell
    have f6 := d6.frozen
    have l6' := d6.lt
    have hK4 : w4.heap[D]? = some (.deferred (some [])) := (hf4.block D (Array.getElem?_eq_some_iff.1 hK).1 (by simp)).trans hK
    have hDl := (Array.getElem?_eq_some_iff.1 hK4).1
    by_cases hs : ((xs.length : Nat) : Int) = stop
    · rw [hs] at d8
      go_wp2
      have B6z := d6.setCell 0 (.bool true)
      refine leave_mark (v := .bool true) rfl ((Below.heap_setCell _ _ _ _ (by show D ≠ w.heap.size + 1; omega)).trans hK4) (fun W' hF => ?_) fun W' hF => ⟨rfl, (((hfw0.trans0 hf4).setCell (.inr (by simp)) _)).trans1 hF (by omega)⟩
      have c6' := (B6z.fr hF (by simp; omega)).cell
      simp [results, Try.results5, go_sem, c6']
    · have hbs : (((xs.length : Nat) : Int) == stop) = false := by simpa using hs
      go_wp2
      have B6z := d6.setCell 0 (.bool true)
      refine leave_mark (v := .bool true) rfl ((Below.heap_setCell _ _ _ _ (by show D ≠ w.heap.size + 1; omega)).trans hK4) (fun W' hF => ?_) fun W' hF => ⟨rfl, (((hfw0.trans0 hf4).setCell (.inr (by simp)) _)).trans1 hF (by omega)⟩
      have c6' := (B6z.fr hF (by simp; omega)).cell
      simp [results, Try.results5, go_sem, c6']
  case stop =>
    rintro D c f W h1 h2 ⟨rfl, rfl, h6, h8, h5, h7, hf⟩ hK
    clear hseq heg hwant
    have hfw : Fr [w.heap.size + 1] w W := hF2.weak.trans hf (fun x hx hlt => by rcases List.mem_cons.1 hx with rfl | hx; simp; have := List.mem_singleton.1 hx; omega)
    have hfw0 : Fr [] w W := hfw.mono (fun x hx hlt => by have := List.mem_singleton.1 hx; omega)
    go_wp2_with fail
    refine (aliveL_calls _).mono ?_
    rintro e w4 ⟨rfl, hf4⟩
    have d6 := h6.fr0 hf4
    have d5 := (h5.fr0 hf4).cell
    have d7 := (h7.fr0 hf4).cell
    have d8 := (h8.fr0 hf4).cell
    have c6 := d6.cell
    have f6 := d6.frozen
    have l6' := d6.lt
    have hK4 : w4.heap[D]? = some (.deferred (some [])) := (hf4.block D (Array.getElem?_eq_some_iff.1 hK).1 (by simp)).trans hK
    have hDl := (Array.getElem?_eq_some_iff.1 hK4).1
    go_wp2
    have B6z := d6.setCell 0 (.bool true)
    refine leave_mark (v := .bool true) rfl ((Below.heap_setCell _ _ _ _ (by show D ≠ w.heap.size + 1; omega)).trans hK4) (fun W' hF => ?_) fun W' hF => ⟨rfl, (((hfw0.trans0 hf4).setCell (.inr (by simp)) _)).trans1 hF (by omega)⟩
    have c6' := (B6z.fr hF (by simp; omega)).cell
    simp [results, Try.results5, go_sem, c6']
end Go.Proofs.Ytkammkbjkojfmaa
