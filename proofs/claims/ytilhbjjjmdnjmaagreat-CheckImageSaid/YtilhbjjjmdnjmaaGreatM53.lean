/-
  Rows of slots that are one's own; slices.Clone of a row; what Repair comes to, in plain Lean.
-/
import Derived.Test.YtilhbjjjmdnjmaaGreatM52
import Derived.Test.YtilhbjjjmdnjmaaGreatM23
namespace Go.Proofs.YtilhbjjjmdnjmaaGreat
open Go.RowKit Go.Maps
attribute [local go_sem] Oper.semAt_some

structure OutV (w : World) (base : Nat) (v : Value) (vs : List Value) (ls : List (List Slt)) : Prop where
  row : w.ownsRow base 92 1 v ls.length vs
  len : vs.length = ls.length
  own : ∀ (i : Nat) (u : Value), vs[i]? = some u → w.ownsRow base 90 3 u (ls.getD i []).length ((ls.getD i []).flatMap slotC)
  ne : ∀ (i j : Nat) (u u' : Value) (b : Nat), i ≠ j → vs[i]? = some u → vs[j]? = some u' → u.ownBlock = some b → u'.ownBlock ≠ some b
  nv : ∀ (i : Nat) (u : Value) (b : Nat), vs[i]? = some u → u.ownBlock = some b → v.ownBlock ≠ some b
theorem OutV.nil (w : World) (base : Nat) : OutV w base (.slice none 0 0) [] [] := ⟨World.ownsRow_nil _ _ _ _, rfl, fun i u h => by simp at h, fun i j u u' b _ h => by simp at h, fun i u b h => by simp at h⟩
theorem OutV.rows {w : World} {base : Nat} {v : Value} {vs : List Value} {ls : List (List Slt)} (h : OutV w base v vs ls) : RowsV w v vs ls := ⟨h.len, Sl.of_owns h.row, fun i u hu => SlF.of_owns (h.own i u hu)⟩
theorem OutV.slr {w : World} {base : Nat} {v : Value} {vs : List Value} {ls : List (List Slt)} (h : OutV w base v vs ls) : SlR w v ls := ⟨vs, h.rows⟩
/-- its blocks -/
def outB (vs : List Value) : List Nat := vs.filterMap Value.ownBlock
theorem outB_mem {vs : List Value} {i : Nat} {u : Value} {b : Nat} (hu : vs[i]? = some u) (hb : u.ownBlock = some b) : b ∈ outB vs := List.mem_filterMap.2 ⟨u, List.mem_of_getElem? hu, hb⟩
theorem OutV.ltB {w : World} {base : Nat} {v : Value} {vs : List Value} {ls : List (List Slt)} (h : OutV w base v vs ls) : ∀ x ∈ outB vs, base ≤ x ∧ x < w.heap.size ∧ v.ownBlock ≠ some x := by
  intro x hx
  obtain ⟨u, hu, hb⟩ := List.mem_filterMap.1 hx
  obtain ⟨i, hi, rfl⟩ := List.getElem_of_mem hu
  have hi' := List.getElem?_eq_getElem hi
  have := (h.own i _ hi').lt x hb
  exact ⟨this.1, this.2, h.nv i _ x hi' hb⟩
theorem OutV.fr {L : List Nat} {w w' : World} {base : Nat} {v : Value} {vs : List Value} {ls : List (List Slt)} (h : OutV w base v vs ls) (hf : Fr L w w') (hL : ∀ x ∈ L, x ∉ outB vs ∧ v.ownBlock ≠ some x) : OutV w' base v vs ls :=
  ⟨owns_fr h.row hf (fun k hk hm => (hL k hm).2 hk), h.len, fun i u hu => owns_fr (h.own i u hu) hf (fun k hk hm => (hL k hm).1 (outB_mem hu hk)), h.ne, h.nv⟩
theorem OutV.fr0 {w w' : World} {base : Nat} {v : Value} {vs : List Value} {ls : List (List Slt)} (h : OutV w base v vs ls) (hf : Fr [] w w') : OutV w' base v vs ls := h.fr hf (by simp)
theorem OutV.snoc {w0 w w' : World} {base : Nat} {v v' x : Value} {vs : List Value} {ls : List (List Slt)} {l : List Slt} (h : OutV w0 base v vs ls) (hb : base ≤ w0.heap.size) (hf : Fr [] w0 w)
    (hx : w.ownsRow w0.heap.size 90 3 x l.length (l.flatMap slotC)) (hown : w'.ownsRow base 92 1 v' (ls.length + 1) (vs ++ [x])) (hg : w.grownBy w' v.ownBlock)
    (hloc : v'.ownBlock = v.ownBlock ∨ v'.ownBlock = some w.heap.size) : OutV w' base v' (vs ++ [x]) (ls ++ [l]) := by
  have hFg := Fr.of_grown hg
  have hz := hf.size
  have hvl : ∀ b, v.ownBlock = some b → b < w0.heap.size := fun b hb => (h.row.lt b hb).2
  have old : ∀ (i : Nat) (u : Value), vs[i]? = some u → ∀ b, u.ownBlock = some b → b < w0.heap.size := fun i u hu b hb => ((h.own i u hu).lt b hb).2
  have split : ∀ (i : Nat) (u : Value), (vs ++ [x])[i]? = some u → (i < vs.length ∧ vs[i]? = some u) ∨ (i = vs.length ∧ u = x) := fun i u hu => by
    by_cases hi : i < vs.length
    · rw [List.getElem?_append_left hi] at hu; exact .inl ⟨hi, hu⟩
    · have hl := (List.getElem?_eq_some_iff.1 hu).1
      simp at hl
      have e : i = vs.length := by omega
      subst e
      rw [List.getElem?_append_right (Nat.le_refl _)] at hu
      simp at hu
      exact .inr ⟨rfl, hu.symm⟩
  refine ⟨by simpa using hown, by simp [h.len], fun i u hu => ?_, fun i j u u' b hij hu hu' hb1 hb2 => ?_, fun i u b hu hb1 hb2 => ?_⟩
  · rcases split i u hu with ⟨hi, hu⟩ | ⟨rfl, rfl⟩
    · have e : (ls ++ [l]).getD i [] = ls.getD i [] := by
        rw [List.getD_eq_getElem?_getD, List.getElem?_append_left (by rw [← h.len]; exact hi), ← List.getD_eq_getElem?_getD]
      rw [e]
      refine owns_fr (owns_fr (h.own i u hu) hf (by simp)) hFg fun k hk hm => ?_
      exact h.nv i u k hu hk (by simpa using hm)
    · have e : (ls ++ [l]).getD vs.length [] = l := by
        rw [List.getD_eq_getElem?_getD, h.len, List.getElem?_append_right (Nat.le_refl _)]; simp
      rw [e]
      refine owns_fr (owns_base hx hb) hFg fun k hk hm => ?_
      have := (hx.lt k hk).1
      have := hvl k (by simpa using hm)
      omega
  · rcases split i u hu with ⟨hi, hu1⟩ | ⟨e1, e2⟩ <;> rcases split j u' hu' with ⟨hj, hu2⟩ | ⟨e3, e4⟩
    · exact h.ne i j u u' b hij hu1 hu2 hb1 hb2
    · have := old i u hu1 b hb1
      rw [e4] at hb2
      have := (hx.lt b hb2).1
      omega
    · have := old j u' hu2 b hb2
      rw [e2] at hb1
      have := (hx.lt b hb1).1
      omega
    · exact hij (e1.trans e3.symm)
  · have hbx : b < w.heap.size := by
      rcases split i u hu with ⟨hi, hu⟩ | ⟨rfl, rfl⟩
      · have := old i u hu b hb1; omega
      · exact (hx.lt b hb1).2
    rcases hloc with e | e
    · rw [e] at hb2
      rcases split i u hu with ⟨hi, hu⟩ | ⟨rfl, rfl⟩
      · exact h.nv i u b hu hb1 hb2
      · have := (hx.lt b hb1).1
        have := hvl b hb2
        omega
    · rw [e] at hb2; cases hb2; omega
/-- a row's slots are turned -/
theorem OutV.put {w w' : World} {base i g : Nat} {v u : Value} {vs : List Value} {ls : List (List Slt)} {l : List Slt} (h : OutV w base v vs ls) (hu : vs[i]? = some u) (hg : u.ownBlock = some g) (hf : Fr [g] w w')
    (hl : l.length = (ls.getD i []).length) (hown : w'.ownsRow base 90 3 u (ls.getD i []).length (l.flatMap slotC)) : OutV w' base v vs (ls.set i l) := by
  have hi : i < ls.length := by rw [← h.len]; exact (List.getElem?_eq_some_iff.1 hu).1
  refine ⟨?_, by simp [h.len], fun j u' hu' => ?_, h.ne, h.nv⟩
  · rw [List.length_set]
    exact owns_fr h.row hf (fun k hk hm => h.nv i u g hu hg (by have := List.mem_singleton.1 hm; subst this; exact hk))
  · by_cases hj : j = i
    · subst hj
      rw [hu] at hu'
      cases hu'
      have e : (ls.set j l).getD j [] = l := by rw [List.getD_eq_getElem?_getD, List.getElem?_set_self hi]; rfl
      rw [e, hl]
      exact hown
    · have e : (ls.set i l).getD j [] = ls.getD j [] := by rw [List.getD_eq_getElem?_getD, List.getElem?_set_ne (by omega), ← List.getD_eq_getElem?_getD]
      rw [e]
      exact owns_fr (h.own j u' hu') hf (fun k hk hm => by have := List.mem_singleton.1 hm; subst this; exact h.ne j i u' u k hj hu' hu hk hg)
/-- slot k of row i: where it lies -/
theorem OutV.at {w : World} {base i k : Nat} {v : Value} {vs : List Value} {ls : List (List Slt)} (h : OutV w base v vs ls) (hi : i < vs.length) (hk : k < (ls.getD i []).length) :
    ∃ g cap, vs[i]? = some (.slice (some ⟨g, 0, none⟩) (ls.getD i []).length cap) ∧ rowB (vs.getD i undef) = g ∧ rowO (vs.getD i undef) = 0 ∧ base ≤ g ∧ g < w.heap.size ∧ w.ownsRow base 90 3 (.slice (some ⟨g, 0, none⟩) (ls.getD i []).length cap) (ls.getD i []).length ((ls.getD i []).flatMap slotC) := by
  have hu := getD_some undef hi
  have ho := h.own i _ hu
  obtain ⟨g, cap, he, hb, _⟩ := owns_succ ho (by omega)
  rw [he] at ho
  refine ⟨g, cap, by rw [hu, he], by rw [he]; rfl, by rw [he]; rfl, hb, (ho.lt g rfl).2, ho⟩
theorem OutV.set3 {w : World} {base i k g cap : Nat} {v : Value} {vs : List Value} {ls : List (List Slt)} (h : OutV w base v vs ls) (hu : vs[i]? = some (.slice (some ⟨g, 0, none⟩) (ls.getD i []).length cap)) (hk : k < (ls.getD i []).length) (s : Slt) :
    OutV (((w.setCell ⟨g, k * 3, none⟩ (.int .i64 s.1)).setCell ⟨g, k * 3 + 1, none⟩ (.int .i64 s.2.1)).setCell ⟨g, k * 3 + 2, none⟩ (.bool s.2.2)) base v vs (ls.set i ((ls.getD i []).set k s)) :=
  h.put hu rfl (Fr.set3' _ _ _ _ _ _ _ _) (by simp) (owns_put3 (h.own i _ hu) rfl k hk s)
theorem flat3_own (l : List Slt) (k : Nat) (hk : k < l.length) (b : Bool) : (l.set k ((l.getD k zS).1, (l.getD k zS).2.1, b)).flatMap slotC = (l.flatMap slotC).set (k * 3 + 2) (.bool b) := by
  rw [flat3_set l k hk]
  have hat : ∀ j u, j < 3 → (slotC (l.getD k zS))[j]? = some u → (l.flatMap slotC)[k * 3 + j]? = some u := fun j u hj hu => by
    rw [flat_at slotC 3 (fun _ => rfl) l k j hj, getD_some zS hk]; exact hu
  have h0 := hat 0 _ (by omega) rfl
  have h1 := hat 1 _ (by omega) rfl
  have e0 : (l.flatMap slotC).set (k * 3) (.int .i64 (l.getD k zS).1) = l.flatMap slotC := by
    apply List.ext_getElem?
    intro q
    rw [List.getElem?_set]
    split
    · rename_i e; subst e; rw [Nat.add_zero] at h0; rw [h0, if_pos (List.getElem?_eq_some_iff.1 h0).1]
    · rfl
  have e1 : (l.flatMap slotC).set (k * 3 + 1) (.int .i64 (l.getD k zS).2.1) = l.flatMap slotC := by
    apply List.ext_getElem?
    intro q
    rw [List.getElem?_set]
    split
    · rename_i e; subst e; rw [h1, if_pos (List.getElem?_eq_some_iff.1 h1).1]
    · rfl
  simp only
  rw [e0, e1]
theorem OutV.setOwn {w : World} {base i k g cap : Nat} {v : Value} {vs : List Value} {ls : List (List Slt)} (h : OutV w base v vs ls) (hu : vs[i]? = some (.slice (some ⟨g, 0, none⟩) (ls.getD i []).length cap)) (hk : k < (ls.getD i []).length) (b : Bool) :
    OutV (w.setCell ⟨g, k * 3 + 2, none⟩ (.bool b)) base v vs (ls.set i ((ls.getD i []).set k (((ls.getD i []).getD k zS).1, ((ls.getD i []).getD k zS).2.1, b))) :=
  h.put hu rfl ((Fr.refl _ w).setCell (.inl (by simp)) _) (by simp) (by rw [flat3_own _ k hk]; exact owns_put (h.own i _ hu) _ _)
theorem flatten_set : ∀ (ls : List (List Slt)) (i k : Nat) (s : Slt), i < ls.length → k < (ls.getD i []).length → (ls.set i ((ls.getD i []).set k s)).flatten = ls.flatten.set (((ls.take i).map List.length).sum + k) s
  | l :: ls, 0, k, s, _, hk => by
    simp only [List.getD_cons_zero] at hk
    simp [List.set_append_left _ _ hk]
  | l :: ls, i + 1, k, s, hi, hk => by
    simp only [List.getD_cons_succ] at hk
    have := flatten_set ls i k s (by simpa using hi) hk
    simp only [List.set_cons_succ, List.getD_cons_succ, List.flatten_cons, List.take_succ_cons, List.map_cons, List.sum_cons, this]
    rw [List.set_append_right _ _ (by omega)]
    congr 2
    omega
theorem lens_set (ls : List (List Slt)) (i : Nat) (l : List Slt) (h : l.length = (ls.getD i []).length) : (ls.set i l).map List.length = ls.map List.length := by
  apply List.ext_getElem?
  intro k
  simp only [List.getElem?_map, List.getElem?_set]
  split
  · rename_i e
    subst e
    split
    · rename_i hl
      rw [List.getD_eq_getElem?_getD, List.getElem?_eq_getElem hl] at h
      rw [List.getElem?_eq_getElem hl, Option.map_some, h]; rfl
    · rename_i hl; rw [List.getElem?_eq_none (by omega)]
  · rfl
theorem eq_of_flat : ∀ (a b : List (List Slt)), a.map List.length = b.map List.length → a.flatten = b.flatten → a = b
  | [], [], _, _ => rfl
  | [], _ :: _, h, _ => by simp at h
  | _ :: _, [], h, _ => by simp at h
  | x :: a, y :: b, h, hf => by
    simp only [List.map_cons, List.cons.injEq] at h
    simp only [List.flatten_cons] at hf
    obtain ⟨h1, h2⟩ := List.append_inj hf h.1
    rw [h1, eq_of_flat a b h.2 h2]
/-! ### what is turned, slot by slot -/
def fixTo (f : Nat → Slt → Slt) (fs : List Slt) (m : Nat) : List Slt := fs.mapIdx fun j s => if j < m then f j s else s
theorem fixTo_length (f : Nat → Slt → Slt) (fs : List Slt) (m : Nat) : (fixTo f fs m).length = fs.length := by simp [fixTo]
theorem fixTo_get (f : Nat → Slt → Slt) (fs : List Slt) (m k : Nat) : (fixTo f fs m)[k]? = (fs[k]?).map fun s => if k < m then f k s else s := by simp [fixTo]
theorem fixTo_zero (f : Nat → Slt → Slt) (fs : List Slt) : fixTo f fs 0 = fs := by
  apply List.ext_getElem?
  intro k
  rw [fixTo_get]
  cases fs[k]? <;> simp
theorem fixTo_all (f : Nat → Slt → Slt) (fs : List Slt) : fixTo f fs fs.length = fs.mapIdx f := by
  apply List.ext_getElem?
  intro k
  rw [fixTo_get, List.getElem?_mapIdx]
  by_cases h : k < fs.length
  · rw [List.getElem?_eq_getElem h]; simp [h]
  · rw [List.getElem?_eq_none (by omega)]; rfl
theorem fixTo_at (f : Nat → Slt → Slt) (fs : List Slt) (m : Nat) : (fixTo f fs m).getD m zS = fs.getD m zS := by
  rw [List.getD_eq_getElem?_getD, fixTo_get, List.getD_eq_getElem?_getD]
  cases fs[m]? <;> simp
theorem fixTo_succ (f : Nat → Slt → Slt) (fs : List Slt) (m : Nat) (h : m < fs.length) : fixTo f fs (m + 1) = (fixTo f fs m).set m (f m (fs.getD m zS)) := by
  apply List.ext_getElem?
  intro k
  rw [fixTo_get, List.getElem?_set, fixTo_length, fixTo_get]
  by_cases e : m = k
  · subst e
    rw [if_pos rfl, if_pos h, getD_some zS h]
    simp
  · rw [if_neg e]
    by_cases hk : k < m
    · simp only [show k < m + 1 by omega, hk, if_true]
    · simp only [show ¬ k < m + 1 by omega, hk, if_false]
theorem fixTo_same (f : Nat → Slt → Slt) (fs : List Slt) (m : Nat) (h : m < fs.length) (he : f m (fs.getD m zS) = fs.getD m zS) : fixTo f fs (m + 1) = fixTo f fs m := by
  rw [fixTo_succ f fs m h, he]
  apply List.ext_getElem?
  intro k
  rw [List.getElem?_set, fixTo_length]
  split
  · rename_i e
    subst e
    rw [← fixTo_at f fs m, ← getD_some zS (by rw [fixTo_length]; exact h)]
  · rfl
def cntTo (p : Nat → Bool) (m : Nat) : Nat := ((List.range m).filter p).length
theorem cntTo_zero (p : Nat → Bool) : cntTo p 0 = 0 := rfl
theorem cntTo_succ (p : Nat → Bool) (m : Nat) : cntTo p (m + 1) = cntTo p m + if p m = true then 1 else 0 := by
  unfold cntTo
  rw [List.range_succ, List.filter_append, List.length_append]
  by_cases h : p m = true <;> simp [h]
theorem cntTo_le (p : Nat → Bool) (m : Nat) : cntTo p m ≤ m := by
  unfold cntTo
  exact Nat.le_trans (List.length_filter_le _ _) (by simp)
/-- Repair's two turns -/
def fix1 (N : Nat) (s : Slt) : Slt := if badS s (N : Int) then zS else s
def own2 (N l0 : Nat) (c : List Int) (m : Nat) (s : Slt) : Bool := hasS s (N : Int) && decide (m < l0) && (c.getD s.2.1.toNat 0 == 1)
def fix2 (N l0 : Nat) (c : List Int) (m : Nat) (s : Slt) : Slt := (s.1, s.2.1, own2 N l0 c m s)
def turn2 (N l0 : Nat) (c : List Int) (fs : List Slt) (m : Nat) : Bool := own2 N l0 c m (fs.getD m zS) != (fs.getD m zS).2.2
def diffAt (n c : List Int) (h : Nat) : Bool := n.getD h 0 != c.getD h 0
/-! ### slices.Clone -/
set_option maxRecDepth 100000 in
theorem Clone_calls (u : Value) (l : List Slt) (w : World) (hs : SlS w u l) (hl : l.length ≤ 1048576) :
    Calls Tryz.prog 83 #[u] w fun e w' => ∃ v, e = .returned v ∧ w'.ownsRow w.heap.size 90 3 v l.length (l.flatMap slotC) ∧ Fr [] w w' := by
  obtain ⟨i0, hi, hz0, hz1, hz2⟩ := info_parts infoSlot
  have hs0 := hs
  obtain ⟨a, cap, rfl, hmc, hcm, hc⟩ := hs
  cases a with
  | none =>
    have hn : l = [] := by
      rcases hc with h | ⟨b, off, h, _⟩
      · have := congrArg List.length h
        rw [flat3_length] at this
        exact List.eq_nil_of_length_eq_zero (by simp at this; omega)
      · cases h
    subst hn
    have hq : ∀ (w : World), (binOp .eql 92 (.slice none 0 cap) (.slice none 0 0)).run Tryz.prog w = .ok (.bool true) w := fun w => Lib.run_eql_slice_nil w _ 90 none 0 cap 0 0 Tryz.underlying92
    simp only [List.length_nil]
    go_enter Tryz.func83, Tryz.ntmps83
    go_wp2
    go_ret
    exact ⟨_, rfl, World.ownsRow_nil _ _ _ _, Fr.refl _ _⟩
  | some ad =>
    have hq : ∀ (w : World), (binOp .eql 92 (.slice (some ad) l.length cap) (.slice none 0 0)).run Tryz.prog w = .ok (.bool false) w := fun w => Lib.run_eql_slice_nil w _ 90 (some ad) l.length cap 0 0 Tryz.underlying92
    have hcell : ∀ (j : Nat) (y : Value), (l.flatMap slotC)[j]? = some y → (w.alloc (.cells #[] 90)).cell? (ad.add j) = some y := fun j y hy => by
      rcases hc with he | ⟨b, off, hab, hb, hc⟩
      · rw [he] at hy; cases hy
      · cases hab
        have hadd : (⟨b, off, none⟩ : Addr).add j = ⟨b, off + j, none⟩ := by unfold Addr.add; split <;> simp_all
        rw [hadd]
        exact (World.cell?_of_block (((Fr.refl [] w).alloc _).block b hb (by simp))).trans (hc j y hy)
    clear hs0 hc
    go_enter Tryz.func83, Tryz.ntmps83
    go_wp2_with (at_builtin; refine Hid.out ?_)
    refine hidIt ?_
    refine wpList_append_own_at (w.alloc (.cells #[] 90)) rfl _ _ 92 rfl w.heap.size 90 i0 _ 3 24 Tryz.underlying92 hi hz0 hz1 hz2 rfl (by decide) (.slice (some ⟨w.heap.size, 0, none⟩) 0 0) 0 [] rfl (World.ownsRow_made w #[] 0 (Nat.le_refl _) (by decide) rfl) ad l.length cap (l.flatMap slotC) rfl (flat3_length l) hcell (flat_one (fun _ => slot_one) l) (by unfold maxLen; omega) (by omega) (by simp) ?_
    intro v2 w2 hown2 hgrow2 _ hloc2
    rw [Nat.zero_add, List.nil_append] at hown2
    obtain ⟨a2, c2, rfl, _⟩ := Sl.of_owns hown2
    have hF2 : Fr [] w w2 := ((Fr.refl [] w).alloc _).grown hgrow2 (fun x hx => .inr (by cases hx; exact Nat.le_refl _))
    go_wp2
    go_ret
    exact ⟨_, rfl, hown2, hF2⟩
end Go.Proofs.YtilhbjjjmdnjmaaGreat

namespace Go.Proofs.YtilhbjjjmdnjmaaGreat
open Go.RowKit Go.Maps
attribute [local go_sem] Oper.semAt_some
attribute [local go_sem high] equalSlot0

/-- what Repair answers -/
def RepPost (n : List Int) (ls : List (List Slt)) (w : World) (e : Ending) (w' : World) : Prop :=
  ∃ v0 v1 vs ls2, e = .returned (.tuple #[v0, v1, .int .i64 ((cntTo (badAt n.length ls.flatten) ls.flatten.length + cntTo (turn2 n.length (len0 ls) (rcL n.length (ls.flatten.mapIdx fun _ => fix1 n.length)) (ls.flatten.mapIdx fun _ => fix1 n.length)) ls.flatten.length + cntTo (diffAt n (rcL n.length (ls.flatten.mapIdx fun _ => fix1 n.length))) n.length : Nat) : Int)]) ∧
    w'.ownsRow w.heap.size 3 1 v0 n.length ((rcL n.length (ls.flatten.mapIdx fun _ => fix1 n.length)).flatMap intC) ∧ OutV w' w.heap.size v1 vs ls2 ∧ ls2.map List.length = ls.map List.length ∧
    ls2.flatten = (ls.flatten.mapIdx fun _ => fix1 n.length).mapIdx (fix2 n.length (len0 ls) (rcL n.length (ls.flatten.mapIdx fun _ => fix1 n.length))) ∧ Fr [] w w'
theorem OutV.base {w : World} {base base' : Nat} {v : Value} {vs : List Value} {ls : List (List Slt)} (h : OutV w base v vs ls) (hb : base' ≤ base) : OutV w base' v vs ls :=
  ⟨owns_base h.row hb, h.len, fun i u hu => owns_base (h.own i u hu) hb, h.ne, h.nv⟩
theorem tot_lens {a b : List (List Slt)} (h : a.map List.length = b.map List.length) : tot a = tot b := by
  have e : ∀ l : List (List Slt), tot l = ((l.map List.length).map (· + 1)).sum := fun l => by unfold tot; rw [List.map_map]; rfl
  rw [e, e, h]
theorem len0_lens {a b : List (List Slt)} (h : a.map List.length = b.map List.length) : len0 a = len0 b := by
  have e : ∀ l : List (List Slt), len0 l = (l.map List.length).getD 0 0 := fun l => by cases l <;> rfl
  rw [e, e, h]
theorem flat_lens {a b : List (List Slt)} (h : a.map List.length = b.map List.length) : a.flatten.length = b.flatten.length := by
  rw [List.length_flatten, List.length_flatten, h]
set_option maxRecDepth 100000 in
set_option maxHeartbeats 6400000 in
theorem Repair_calls (v u : Value) (n : List Int) (ls : List (List Slt)) (w : World) (hv : SlI w v n) (hu : SlR w u ls) (ht : tot ls ≤ 1048576) (hn : n.length ≤ 1048576) : Calls Tryz.prog 41 #[v, u] w (RepPost n ls w) := by
  obtain ⟨an, capn, rfl, hlcn, hcmn, _⟩ := hv.open
  obtain ⟨a', cap', rfl, hlc', hcm'⟩ := hu.open
  unfold maxLen at hcm'
  have htl := tot_len ls
  have htf := flatten_len ls
  have B2 := Blk.new w [.slice an n.length capn] 57
  have hf0 := (Fr.refl [] w).alloc (.cells #[.slice an n.length capn] 57)
  have hb0 : w.heap.size + 1 ≤ (w.alloc (.cells #[.slice an n.length capn] 57)).heap.size := by simp
  have hb0' : (w.alloc (.cells #[.slice an n.length capn] 57)).heap.size ≤ w.heap.size + 1 := by simp
  generalize hwA : w.alloc (.cells #[.slice an n.length capn] 57) = wA at *
  refine calls_marks Tryz.func41 rfl ?_
  simp only [Tryz.ntmps41, List.size_toArray, List.length_cons, List.length_nil, Nat.reduceAdd, Nat.reduceSub, Array.replicate_succ, Array.replicate_zero, List.push_toArray, List.append_toArray, List.nil_append, List.cons_append]
  go_wp2_with fail
  clear hwA
  go_loopw [7, 20] (fun out i wr => ∃ (k : Nat) (vs : List Value), k ≤ ls.length ∧ i = .int .i64 k ∧ OutV wr (w.heap.size + 1) out vs (ls.take k) ∧ Fr [] wA wr) (fun _ i _ => ls.length - (intOf i).toNat)
  case atStart => exact ⟨0, [], Nat.zero_le _, rfl, OutV.nil _ _, Fr.refl _ _⟩
  case round =>
    obtain ⟨k, vs, hk, rfl, hO, hF⟩ := hrel
    have hFw := hf0.trans0 hF
    by_cases hlt : k < ls.length
    · obtain ⟨b, off, a2, cap2, rfl, hb, c0, hs, hm2⟩ := SlR.at (hu.fr0 hFw) hlt
      have Hst : Hid (ls.take (k + 1) = ls.take k ++ [ls.getD k []]) := hidIt (by
        have hg : ls[k] = ls.getD k [] := by rw [List.getD_eq_getElem?_getD, List.getElem?_eq_getElem hlt]; rfl
        rw [List.take_succ_eq_append_getElem hlt, hg])
      have hml := tot_at hlt
      have hkl : (ls.take k).length = k := by simp; omega
      generalize ls.take k = done at *
      generalize ls.getD k [] = l at *
      have hlk : l.length ≤ 1048576 := by omega
      have hzF := hF.size
      go_wp2_with fail
      refine (Clone_calls _ l _ hs hlk).mono ?_
      rintro e w2 ⟨x, rfl, hx, hf2⟩
      obtain ⟨ax, cx, rfl, _⟩ := Sl.of_owns hx
      have hO2 := hO.fr0 hf2
      have hz2 := hf2.size
      have hdl : done.length ≤ 1048576 := by omega
      have hF2 := hF.trans0 hf2
      have hub : ∀ x, u7.ownBlock = some x → w.heap.size + 1 ≤ x := fun x hx => (hO.row.lt x hx).1
      go_wp2_with (at_builtin; refine Hid.out ?_)
      refine hidIt ?_
      refine wpList_append1 93 92 (.slice none 0 0) 1 24 Tryz.underlying93 infoRow rfl (by decide) (by decide) rfl _ _ rfl (w.heap.size + 1) u7 _ vs rfl (hO2.row.alloc _) [.slice ax l.length cx] rfl (by intro u hu; simp at hu; subst hu; rfl) w2.heap.size rfl (Blk.new _ _ _) (by omega) (by simp; omega) ?_
      intro v' w3 hown3 hgrow hloc
      go_wp2
      go_roundw
      case rel => exact ⟨k + 1, vs ++ [.slice ax l.length cx], by omega, by go_num, by rw [Hst.out]; exact hO.snoc (by omega) (hf2.alloc _) (hx.alloc _) hown3 hgrow hloc, (hF2.alloc _).grown hgrow (fun x hx => .inr (by have := hub x hx; omega))⟩
      case measure => simp [intOf]; omega
    · have hkl : k = ls.length := by omega
      subst hkl
      rw [List.take_length] at hO
      have hB2 := B2.fr0 hF
      have hzF := hF.size
      have hR := hO.rows
      obtain ⟨a, cap, rfl, _⟩ := Sl.of_owns hO.row
      have hlow : ∀ x, (Value.slice a ls.length cap).ownBlock = some x → w.heap.size + 1 ≤ x ∧ x < wr.heap.size := fun x hx => hO.row.lt x hx
      have Bc := Blk.new wr [.int .i64 0] 3
      have hfa := (Fr.refl [] wr).alloc (.cells #[.int .i64 0] 3)
      go_wp2_with fail
      refine (all_calls _ _ ⟨_, _, _, rfl⟩).mono ?_
      rintro e w1 ⟨bt, rfl, hbt, hf1, hb1⟩
      have hzB := hf1.size
      simp only [World.size_alloc] at hb1 hzB
      have hfb := hfa.trans0 hf1
      have hF1 := hF.trans0 hfb
      replace Bc := Bc.fr0 hf1
      replace B2 := hB2.fr0 hfb
      have hO1 := hO.fr0 hfb
      have hRt := hR.rows ht
      have hcA := hR.cumAll
      have hvl := hO.len
      have hltB := hO.ltB
      have hcn : wr.heap.size ∉ outB vs := fun h => by have := (hltB _ h).2.1; omega
      have hvc : (Value.slice a ls.length cap).ownBlock ≠ some wr.heap.size := fun h => by have := (hlow _ h).2; omega
      have heg : ∀ args w, (callFunc 99 args).run Tryz.prog w = .ok (.enter 99 args) w := enters_of Tryz.func99 (by kernel_rfl) rfl
      have hseq := all_seq bt a cap vs w1 (by rw [hvl]; exact hbt) (by rw [hvl]; exact hO1.rows.2.1) hRt (by rw [hcA]; omega)
      rw [hcA] at hseq
      clear hR hRt hbt hfa hfb hf1 hB2 hO hcA
      generalize hfs : ls.flatten = fs at *
      have hflen : fs.length ≤ 1048576 := by omega
      generalize wr = wB at *
      go_wp2_with fail
      refine wp_rangeFunc_seqL rfl heg hseq (Fr.refl _ _) (fun k f A => ∃ ls', f = wB.heap.size :: outB vs ∧ Blk A wB.heap.size [.int .i64 ((cntTo (badAt n.length fs) k : Nat) : Int)] 3 ∧ Blk A w.heap.size [.slice an n.length capn] 57 ∧ OutV A (w.heap.size + 1) (.slice a ls.length cap) vs ls' ∧ ls'.map List.length = ls.map List.length ∧ ls'.flatten = fixTo (fun _ => fix1 n.length) fs k ∧ Fr [] wA A) (fun _ _ _ => False) (wB.heap.size :: outB vs) ?st (fun _ _ _ _ _ h _ _ => h) (by simp) ?fp ⟨ls, rfl, Bc, B2, hO1, rfl, by rw [fixTo_zero]; exact hfs, hF1⟩ ?round ?done (fun _ _ _ _ _ _ h _ => h.elim)
      case fp =>
        intro x hx
        rcases List.mem_cons.1 hx with rfl | hx
        · refine ⟨by omega, fun h => ?_⟩
          rcases h with h | ⟨h0, p, hp, he⟩
          · omega
          · have := (hlow p.block (by rw [hp]; rfl)).2; omega
        · obtain ⟨q1, q2, q3⟩ := hltB x hx
          refine ⟨by omega, fun h => ?_⟩
          rcases h with h | ⟨h0, p, hp, he⟩
          · omega
          · exact q3 (by rw [hp, ← he]; rfl)
      case st =>
        rintro k f A B M' ⟨ls', rfl, hc, h2, hO', hl, hfl, hf⟩ hF' hM
        have nM : ∀ y ∈ M', w1.heap.size ≤ y ∧ y ∉ wB.heap.size :: outB vs := fun y hy => by rcases hM y hy with h | h; cases h; exact h
        exact ⟨ls', rfl, hc.fr hF' (fun h => (nM _ h).2 List.mem_cons_self), h2.fr hF' (fun h => by have := nM _ h; omega), hO'.fr hF' (fun x hx => ⟨fun h => (nM x hx).2 (List.mem_cons_of_mem _ h), fun h => by have := (nM x hx).1; have := hlow x h; omega⟩), hl, hfl, hf.trans hF' (fun x hx hl => by have := (nM x hx).1; have := hF.size; omega)⟩
      case round =>
        rintro lp k f A args h1 h2 h3 h4 hkk ⟨ls', hfe, hBc, hB2, hO', hl', hfl, hf⟩ ⟨i, kk, pb, hi2, hk2, hMk, hpb, rfl, hBp⟩ ⟨rr, hrr⟩
        refine ⟨rfl, ?_⟩
        clear hseq heg
        have hne : pb ≠ lp := fun e => by subst e; unfold Blk at hBp; rw [hBp] at hrr; cases hrr
        gi_wp2
        refine ⟨⟨ls', hfe, hBc, hB2, hO', hl', hfl, hf⟩, Fr.refl _ _, ?_⟩
        clear hBc hB2 hO' hf hfe hl' hfl ls'
        rintro A2 ⟨ls', rfl, hBc, hB2, hO', hl', hfl, hf⟩ hF2 hsz2
        have hBp2 := hBp.fr hF2 (by simpa using hne)
        obtain ⟨hss, hkl, hget⟩ := hO'.rows.slot hi2 hk2
        have Hflat := fun s' => flatten_set ls' i kk s' (by rw [← hO'.len]; exact hi2) hkl
        rw [← hO'.rows.cum (Nat.le_of_lt hi2), ← hMk, hfl] at Hflat
        rw [← hMk, hfl, fixTo_at] at hget
        obtain ⟨g, cp, hvi, hrb, hro, hgb, hgl, hown⟩ := hO'.at hi2 hkl
        rw [hrb, hro, Nat.zero_add] at hBp2
        have hgB : g ∈ outB vs := outB_mem hvi rfl
        have hgn := hltB g hgB
        have Hbad := hidIt (cntTo_succ (badAt n.length fs) k)
        have Hb : Hid (badAt n.length fs k = badS (fs.getD k zS) n.length) := hidIt rfl
        have Hfix := hidIt (fixTo_succ (fun _ => fix1 n.length) fs k hkk)
        have Hno := fun h => hidIt (fixTo_same (fun _ => fix1 n.length) fs k hkk h)
        have Hset := hO'.set3 hvi hkl zS
        have hcle := cntTo_le (badAt n.length fs) k
        have hlens := lens_set ls' i ((ls'.getD i []).set kk zS) (by simp)
        have Hl2 : Hid (ls'.map List.length = ls.map List.length) := hidIt hl'
        have Hfl := hidIt hfl
        clear hfl hl' hss hBp hMk hi2 hk2 hrb hro
        have hpd := hBp2.fr0 (Fr.refl _ _).drew
        have hFd : Fr [] A2 A2.drew := (Fr.refl _ _).drew
        have hcells : ∀ X, Fr [] A2 X → X.cell? ⟨g, kk * 3, none⟩ = some (.int .i64 (fs.getD k zS).1) ∧ X.cell? ⟨g, kk * 3 + 1, none⟩ = some (.int .i64 (fs.getD k zS).2.1) ∧ X.cell? ⟨g, kk * 3 + 2, none⟩ = some (.bool (fs.getD k zS).2.2) := fun X hX => by
          rw [hget]; exact (owns_at3 (owns_fr hown hX (by simp)) hkl).1
        have hfroz : ∀ X, Fr [] A2 X → ∀ o, X.frozen? ⟨g, o, none⟩ = false := fun X hX => (owns_at3 (owns_fr hown hX (by simp)) hkl).2
        generalize cntTo (badAt n.length fs) k = C at *
        generalize fs.getD k zS = s at *
        obtain ⟨p, q, r⟩ := s
        simp only at hcells
        clear hget hown hgl
        gi_wp2_with fail
        refine wpIn_region_G (Fr [] A2.drew) [(true, 0), (true, 1), (true, 2), (true, 3), (true, 4), (true, 5), (true, 6), (true, 7), (false, 8)] (by as_aux_lemma => kernel_rfl) (by as_aux_lemma => kernel_rfl) (Fr.refl _ _) ?_
        simp only [inOrder, List.map_cons, List.map_nil, List.getD_cons_zero, List.getD_cons_succ]
        iterate 3
          refine wpG_pure fun K hK => ?_
          go_simp
          refine hK _ ?_
          clear hK K
        refine wpG_val (.pointer (some ⟨g, kk * 3, none⟩)) (by first | rfl | go_simp) (fun X hX => by have cc := (hpd.fr0 hX).cell; go_simp) ?_
        simp only [Act.put, List.setIfInBounds_toArray, List.set_cons_zero, List.set_cons_succ]
        iterate 1
          refine wpG_pure fun K hK => ?_
          go_simp
          refine hK _ ?_
          clear hK K
        refine wpG_val (.agg #[.int .i64 p, .int .i64 q, .bool r]) (by first | rfl | go_simp) (fun X hX => by obtain ⟨e0, e1, e2⟩ := hcells X (hFd.trans0 hX); go_simp) ?_
        simp only [Act.put, List.setIfInBounds_toArray, List.set_cons_zero, List.set_cons_succ]
        refine wpG_val (.slice an n.length capn) (by first | rfl | go_simp) (fun X hX => by have cc := ((hB2.fr0 hFd).fr0 hX).cell; go_simp) ?_
        simp only [Act.put, List.setIfInBounds_toArray, List.set_cons_zero, List.set_cons_succ]
        iterate 1
          refine wpG_pure fun K hK => ?_
          go_simp
          refine hK _ ?_
          clear hK K
        refine wpG_one fun K hK => ?_
        go_simp
        refine (beyond_calls p q r (n.length : Int) _).mono ?_
        rintro e w6 ⟨rfl, hf6⟩
        refine hK _ _ (hf6) ?_
        clear hK K
        refine wpG_end ?_
        have hf26 := hFd.trans0 hf6
        have hc6 := hBc.fr0 hf26
        have h26 := hB2.fr0 hf26
        have hp6 := hpd.fr0 hf6
        have hz6 := hf26.size
        cases hh : badS (p, q, r) (n.length : Int) with
        | false =>
          have e1 := Hno (by unfold fix1; rw [hh]; rfl)
          have hO6 := hO'.fr0 hf26
          have hfw := hf.trans0 hf26
          have hB6 := fun z hz => (hO6.ltB z hz).2.1
          have lc := hc6.lt
          clear Hfix Hflat Hset hcells hfroz Hno
          gi_wp2
          exact ⟨_, ⟨ls', rfl, by rw [Hbad.out, Hb.out, hh]; exact hc6, h26, hO6, Hl2.out, by rw [e1.out]; exact Hfl.out, hfw⟩, hf26.weak, fun z hz => ⟨by rcases List.mem_cons.1 hz with rfl | hz; exact lc; exact hB6 z hz, .inl hz⟩⟩
        | true =>
          obtain ⟨e0, e1, e2⟩ := hcells w6 hf26
          have hfz := hfroz w6 hf26
          have hgc : g ≠ wB.heap.size := by omega
          have cc := hc6.cell
          have fc := hc6.frozen
          have cp6 := hp6.cell
          clear Hno hcells hfroz
          gi_wp2
          have hO6 := (hO'.fr0 hf26).set3 hvi hkl zS
          have hs3 : Fr [g] w6 (((w6.setCell ⟨g, kk * 3, none⟩ (.int .i64 0)).setCell ⟨g, kk * 3 + 1, none⟩ (.int .i64 0)).setCell ⟨g, kk * 3 + 2, none⟩ (.bool false)) := Fr.set3' _ _ _ _ _ _ _ _
          have hc7 := hc6.fr hs3 (by simp; omega)
          have h27 := h26.fr hs3 (by simp; omega)
          have hf7 : Fr (wB.heap.size :: outB vs) A2 (((w6.setCell ⟨g, kk * 3, none⟩ (.int .i64 0)).setCell ⟨g, kk * 3 + 1, none⟩ (.int .i64 0)).setCell ⟨g, kk * 3 + 2, none⟩ (.bool false)) := hf26.weak.trans' (hs3.mono (fun x hx _ => by have := List.mem_singleton.1 hx; subst this; exact List.mem_cons_of_mem _ hgB))
          have hfw7 := (hf.trans0 hf26).trans hs3 (fun x hx hl => by have := List.mem_singleton.1 hx; omega)
          change OutV (((w6.setCell ⟨g, kk * 3, none⟩ (.int .i64 0)).setCell ⟨g, kk * 3 + 1, none⟩ (.int .i64 0)).setCell ⟨g, kk * 3 + 2, none⟩ (.bool false)) _ _ _ _ at hO6
          generalize (((w6.setCell ⟨g, kk * 3, none⟩ (.int .i64 0)).setCell ⟨g, kk * 3 + 1, none⟩ (.int .i64 0)).setCell ⟨g, kk * 3 + 2, none⟩ (.bool false)) = w7 at *
          have hs4 : Fr [wB.heap.size] w7 (w7.setCell ⟨wB.heap.size, 0, none⟩ (.int .i64 ((C : Int) + 1))) := (Fr.refl _ _).setCell (.inl (by simp)) _
          have hO8 := hO6.fr hs4 (fun x hx => by have := List.mem_singleton.1 hx; subst this; exact ⟨hcn, hvc⟩)
          have hc8 := hc7.setCell 0 (.int .i64 ((C : Int) + 1))
          have h28 := h27.fr hs4 (by simp; omega)
          have hf8 := hf7.trans' (hs4.mono (fun x hx _ => by have := List.mem_singleton.1 hx; subst this; exact List.mem_cons_self))
          have hfw8 := hfw7.trans hs4 (fun x hx hl => by have := List.mem_singleton.1 hx; omega)
          have lc := hc8.lt
          have hB8 := fun z hz => (hO8.ltB z hz).2.1
          have e1 : fix1 n.length (p, q, r) = zS := by unfold fix1; rw [hh]; rfl
          exact ⟨_, ⟨_, rfl, by rw [Hbad.out, Hb.out, hh]; exact hc8, h28, hO8, hlens.trans Hl2.out, by rw [Hfix.out, Hflat, e1], hfw8⟩, hf8, fun z hz => ⟨by rcases List.mem_cons.1 hz with rfl | hz; exact lc; exact hB8 z hz, .inl hz⟩⟩
      case done =>
        rintro D f W h1 h2 ⟨ls', rfl, hBc, hB2, hO', hl', hfl, hf⟩ hK
        rw [fixTo_all] at hfl
        clear hseq
        have htot := tot_lens hl'
        have hl0 := len0_lens hl'
        have hgl : (fs.mapIdx fun _ => fix1 n.length).length = fs.length := by simp
        have hFw : Fr [] w W := hf0.trans0 hf
        have kR := refs_calls n.length (.slice a ls.length cap) ls' W hO'.slr (by omega) hn
        rw [hfl] at kR
        generalize hgs : (fs.mapIdx fun _ => fix1 n.length) = gs at *
        have hC1 := cntTo_le (badAt n.length fs) fs.length
        generalize hC1e : cntTo (badAt n.length fs) fs.length = C1 at *
        have c2 := hB2.cell
        go_wp2_with fail
        refine kR.mono ?_
        rintro e W2 ⟨v0, rfl, ho, hfr⟩
        clear kR c2
        have hz2 := hfr.size
        have hrl := rcL_length n.length gs
        generalize hc : rcL n.length gs = c at *
        have hsc : SlI W2 v0 c := SlF.of_owns (by rw [hrl]; exact ho)
        obtain ⟨al, cl, rfl, _⟩ := Sl.of_owns ho
        have Bl := Blk.new W2 [.slice al n.length cl] 57
        have hfa := (Fr.refl [] W2).alloc (.cells #[.slice al n.length cl] 57)
        go_wp2_with fail
        refine (all_calls _ _ ⟨_, _, _, rfl⟩).mono ?_
        rintro e W3 ⟨bt2, rfl, hbt, hf3, hb3⟩
        have hz3 := hf3.size
        simp only [World.size_alloc] at hb3 hz3
        have hf23 := hfa.trans0 hf3
        have hfW := hfr.trans0 hf23
        replace Bl := Bl.fr0 hf3
        replace hBc := hBc.fr0 hfW
        replace hB2 := hB2.fr0 hfW
        replace hO' := hO'.fr0 hfW
        replace hsc := SlF.fr0 hsc hf23
        replace ho := owns_fr ho hf23 (by simp)
        replace hf := hf.trans0 hfW
        have hKl := (Array.getElem?_eq_some_iff.1 hK).1
        have hK3 : W3.heap[D]? = some (.deferred (some [])) := (hfW.block D hKl (by simp)).trans hK
        have hob := own_base ho
        have hseq := all_seq bt2 a cap vs W3 (by rw [hvl]; exact hbt) (by rw [hvl]; have e := hO'.rows.2.1; rw [← hO'.len, hvl] at e; exact e) (hO'.rows.rows (by omega)) (by rw [hO'.rows.cumAll, hfl, hgl]; omega)
        rw [hO'.rows.cumAll, hfl] at hseq
        clear hbt hfa hf3 hf23 hfW hfr hK
        go_wp2_with fail
        refine wp_rangeFunc_seqL rfl heg hseq (Fr.refl _ _) (fun k f A => ∃ ls3 M, Hid (M = C1 + cntTo (turn2 n.length (len0 ls) c gs) k) ∧ f = wB.heap.size :: outB vs ∧ Blk A wB.heap.size [.int .i64 ((M : Nat) : Int)] 3 ∧ OutV A (w.heap.size + 1) (.slice a ls.length cap) vs ls3 ∧ ls3.map List.length = ls.map List.length ∧ ls3.flatten = fixTo (fix2 n.length (len0 ls) c) gs k ∧ Fr (wB.heap.size :: outB vs) W3 A) (fun _ _ _ => False) (wB.heap.size :: outB vs) ?st (fun _ _ _ _ _ h _ _ => h) (by simp) ?fp ⟨ls', C1, hidIt rfl, rfl, hBc, hO', hl', by rw [fixTo_zero]; exact hfl, Fr.refl _ _⟩ ?round ?done (fun _ _ _ _ _ _ h _ => h.elim)
        case fp =>
          intro x hx
          rcases List.mem_cons.1 hx with rfl | hx
          · refine ⟨by omega, fun h => ?_⟩
            rcases h with h | ⟨h0, p, hp, he⟩
            · omega
            · have := (hlow p.block (by rw [hp]; rfl)).2; omega
          · obtain ⟨q1, q2, q3⟩ := hltB x hx
            refine ⟨by omega, fun h => ?_⟩
            rcases h with h | ⟨h0, p, hp, he⟩
            · omega
            · exact q3 (by rw [hp, ← he]; rfl)
        case st =>
          rintro k f A B M' ⟨ls3, M, HM, rfl, hc, hO', hl, hfl, hf⟩ hF' hM
          have nM : ∀ y ∈ M', W3.heap.size ≤ y ∧ y ∉ wB.heap.size :: outB vs := fun y hy => by rcases hM y hy with h | h; cases h; exact h
          exact ⟨ls3, M, HM, rfl, hc.fr hF' (fun h => (nM _ h).2 List.mem_cons_self), hO'.fr hF' (fun x hx => ⟨fun h => (nM x hx).2 (List.mem_cons_of_mem _ h), fun h => by have := (nM x hx).1; have := hlow x h; omega⟩), hl, hfl, hf.trans hF' (fun x hx hl => by have := (nM x hx).1; omega)⟩
        case round =>
          rintro lp k f A args h1 h2 h3 h4 hkk ⟨ls3, M, HM, hfe, hBc, hO', hl', hfl, hf⟩ ⟨i, kk, pb, hi2, hk2, hMk, hpb, rfl, hBp⟩ ⟨rr, hrr⟩
          refine ⟨rfl, ?_⟩
          clear hseq heg
          have hne : pb ≠ lp := fun e => by subst e; unfold Blk at hBp; rw [hBp] at hrr; cases hrr
          gi_wp2
          refine ⟨⟨ls3, M, HM, hfe, hBc, hO', hl', hfl, hf⟩, Fr.refl _ _, ?_⟩
          clear hBc hO' hf hfe hl' hfl ls3 HM M
          rintro A2 ⟨ls3, M, HM, rfl, hBc, hO', hl', hfl, hf⟩ hF2 hsz2
          have hBp2 := hBp.fr hF2 (by simpa using hne)
          obtain ⟨hss, hkl, hget⟩ := hO'.rows.slot hi2 hk2
          have hrow := hO'.rows.row0 hi2 hk2
          rw [← hMk, len0_lens hl'] at hrow
          have Hflat := fun s' => flatten_set ls3 i kk s' (by rw [← hO'.len]; exact hi2) hkl
          rw [← hO'.rows.cum (Nat.le_of_lt hi2), ← hMk, hfl] at Hflat
          rw [← hMk, hfl, fixTo_at] at hget
          obtain ⟨g, cp, hvi, hrb, hro, hgb, hgl, hown⟩ := hO'.at hi2 hkl
          rw [hrb, hro, Nat.zero_add] at hBp2
          have hgB : g ∈ outB vs := outB_mem hvi rfl
          have hgn := hltB g hgB
          have Hcnt := hidIt (cntTo_succ (turn2 n.length (len0 ls) c gs) k)
          have Ht : Hid (turn2 n.length (len0 ls) c gs k = (own2 n.length (len0 ls) c k (gs.getD k zS) != (gs.getD k zS).2.2)) := hidIt rfl
          have Hown : Hid (own2 n.length (len0 ls) c k (gs.getD k zS) = (hasS (gs.getD k zS) (n.length : Int) && decide (i = 0) && (c.getD (gs.getD k zS).2.1.toNat 0 == 1))) := hidIt (by unfold own2; simp only [hrow])
          have Hhost := fun h => has_host (s := gs.getD k zS) (m := n.length) h
          have Hfix := hidIt (fixTo_succ (fix2 n.length (len0 ls) c) gs k hkk)
          have Hno := fun h => hidIt (fixTo_same (fix2 n.length (len0 ls) c) gs k hkk h)
          have Hfx : Hid (fix2 n.length (len0 ls) c k (gs.getD k zS) = ((gs.getD k zS).1, (gs.getD k zS).2.1, own2 n.length (len0 ls) c k (gs.getD k zS))) := hidIt rfl
          have Hset : ∀ (X : World) (b : Bool), Fr [] A2 X → OutV (X.setCell ⟨g, kk * 3 + 2, none⟩ (.bool b)) (w.heap.size + 1) (.slice a ls.length cap) vs (ls3.set i ((ls3.getD i []).set kk ((gs.getD k zS).1, (gs.getD k zS).2.1, b))) := fun X b hX => by
            rw [hget]; exact (hO'.fr0 hX).setOwn hvi hkl b
          have hcle := cntTo_le (turn2 n.length (len0 ls) c gs) k
          have hM2 : M ≤ 2097152 := by rw [HM.out]; omega
          have hlens := fun s' => lens_set ls3 i ((ls3.getD i []).set kk s') (by simp)
          have Hl2 : Hid (ls3.map List.length = ls.map List.length) := hidIt hl'
          have Hfl := hidIt hfl
          clear hfl hl' hss hBp hMk hi2 hk2 hrb hro hrow hcle
          have hpd := hBp2.fr0 (Fr.refl _ _).drew
          have hFd : Fr [] A2 A2.drew := (Fr.refl _ _).drew
          have hcells : ∀ X, Fr [] A2 X → X.cell? ⟨g, kk * 3, none⟩ = some (.int .i64 (gs.getD k zS).1) ∧ X.cell? ⟨g, kk * 3 + 1, none⟩ = some (.int .i64 (gs.getD k zS).2.1) ∧ X.cell? ⟨g, kk * 3 + 2, none⟩ = some (.bool (gs.getD k zS).2.2) := fun X hX => by
            rw [hget]; exact (owns_at3 (owns_fr hown hX (by simp)) hkl).1
          have hfroz : ∀ X, Fr [] A2 X → ∀ o, X.frozen? ⟨g, o, none⟩ = false := fun X hX => (owns_at3 (owns_fr hown hX (by simp)) hkl).2
          have hnN : ∀ X, Fr [] A2 X → Blk X w.heap.size [.slice an n.length capn] 57 := fun X hX => (hB2.fr hf (fun h => by
            rcases List.mem_cons.1 h with h | h
            · omega
            · have := hltB _ h; omega)).fr0 hX
          have hlN : ∀ X, Fr [] A2 X → Blk X W2.heap.size [.slice al n.length cl] 57 := fun X hX => (Bl.fr hf (fun h => by
            rcases List.mem_cons.1 h with h | h
            · omega
            · have := hltB _ h; omega)).fr0 hX
          have hcN : ∀ X, Fr [] A2 X → SlI X (.slice al n.length cl) c := fun X hX => SlF.fr0 (SlF.fr hsc hf (fun x hx h => by
            have := hob x hx
            rcases List.mem_cons.1 h with h | h
            · omega
            · have := hltB _ h; omega)) hX
          generalize gs.getD k zS = s at *
          obtain ⟨p, q, r⟩ := s
          simp only at hcells Hset Hhost Hfx
          clear hget hown hgl
          gi_wp2_with fail
          refine wpIn_region_G (Fr [] A2.drew) [(true, 0), (true, 1), (true, 2), (true, 3), (true, 4), (true, 5), (true, 6), (true, 7), (false, 8), (true, 9), (true, 10), (true, 11), (true, 12), (true, 13), (true, 14), (true, 15), (true, 16), (true, 17), (true, 18), (true, 19), (true, 20), (true, 21), (true, 22), (true, 23), (true, 24), (true, 25), (true, 26)] (by as_aux_lemma => kernel_rfl) (by as_aux_lemma => kernel_rfl) (Fr.refl _ _) ?_
          simp only [inOrder, List.map_cons, List.map_nil, List.getD_cons_zero, List.getD_cons_succ]
          iterate 3
            refine wpG_pure fun K hK => ?_
            go_simp
            refine hK _ ?_
            clear hK K
          refine wpG_val (.pointer (some ⟨g, kk * 3, none⟩)) (by first | rfl | go_simp) (fun X hX => by have cc := (hpd.fr0 hX).cell; go_simp) ?_
          simp only [Act.put, List.setIfInBounds_toArray, List.set_cons_zero, List.set_cons_succ]
          iterate 1
            refine wpG_pure fun K hK => ?_
            go_simp
            refine hK _ ?_
            clear hK K
          refine wpG_val (.agg #[.int .i64 p, .int .i64 q, .bool r]) (by first | rfl | go_simp) (fun X hX => by obtain ⟨e0, e1, e2⟩ := hcells X (hFd.trans0 hX); go_simp) ?_
          simp only [Act.put, List.setIfInBounds_toArray, List.set_cons_zero, List.set_cons_succ]
          refine wpG_val (.slice an n.length capn) (by first | rfl | go_simp) (fun X hX => by have cc := (hnN X (hFd.trans0 hX)).cell; go_simp) ?_
          simp only [Act.put, List.setIfInBounds_toArray, List.set_cons_zero, List.set_cons_succ]
          iterate 1
            refine wpG_pure fun K hK => ?_
            go_simp
            refine hK _ ?_
            clear hK K
          refine wpG_one fun K hK => ?_
          go_simp
          refine (has_calls p q r (n.length : Int) _).mono ?_
          rintro e w6 ⟨rfl, hf6⟩
          refine hK _ _ (hf6) ?_
          clear hK K
          have hf26 := hFd.trans0 hf6
          have hc6 := hBc.fr0 hf26
          have hp6 := hpd.fr0 hf6
          have hz6 := hf26.size
          obtain ⟨e0, e1, e2⟩ := hcells w6 hf26
          have hfz := hfroz w6 hf26
          have hgc : g ≠ wB.heap.size := by omega
          have fc := hc6.frozen
          have cc6 := hc6.cell
          have cp6 := hp6.cell
          cases hh : hasS (p, q, r) (n.length : Int) with
          | false =>
            have eo := Hown.out
            rw [hh] at eo
            simp only [Bool.false_and] at eo
            iterate 18
              refine wpG_pure fun K hK => ?_
              go_simp
              refine hK _ ?_
              clear hK K
            refine wpG_end ?_
            cases r with
            | false =>
              have hO6 := hO'.fr0 hf26
              have hfw := hf.trans0 hf26
              have hB6 := fun z hz => (hO6.ltB z hz).2.1
              have lc := hc6.lt
              have e9 := Hno (by rw [Hfx.out, eo])
              have eT := Ht.out
              rw [eo] at eT
              have HM1 : Hid (M = C1 + cntTo (turn2 n.length (len0 ls) c gs) (k + 1)) := hidIt (by rw [Hcnt.out, eT]; simp; exact HM.out)
              clear Hfix Hflat Hset Hno Hown Hfx Ht Hcnt eT HM Hhost hcells hfroz
              clear eo
              gi_wp2
              exact ⟨_, ⟨ls3, M, HM1, rfl, hc6, hO6, Hl2.out, by rw [e9.out]; exact Hfl.out, hfw⟩, hf26.weak, fun z hz => ⟨by rcases List.mem_cons.1 hz with rfl | hz; exact lc; exact hB6 z hz, .inl hz⟩⟩
            | true =>
              have eT := Ht.out
              rw [eo] at eT
              have HM1 : Hid (M + 1 = C1 + cntTo (turn2 n.length (len0 ls) c gs) (k + 1)) := hidIt (by rw [Hcnt.out, eT]; simp; rw [HM.out]; omega)
              have e9 : Hid ((ls3.set i ((ls3.getD i []).set kk (p, q, false))).flatten = fixTo (fix2 n.length (len0 ls) c) gs (k + 1)) := hidIt (by rw [Hfix.out, Hflat, Hfx.out, eo])
              have hO7 := Hset w6 false hf26
              have hl7 := hlens (p, q, false)
              have hs3 : Fr [g] w6 (w6.setCell ⟨g, kk * 3 + 2, none⟩ (.bool false)) := (Fr.refl _ _).setCell (.inl (by simp)) _
              have hc7 := hc6.fr hs3 (by simp; omega)
              have hf7 : Fr (wB.heap.size :: outB vs) A2 (w6.setCell ⟨g, kk * 3 + 2, none⟩ (.bool false)) := hf26.weak.trans' (hs3.mono (fun x hx _ => by have := List.mem_singleton.1 hx; subst this; exact List.mem_cons_of_mem _ hgB))
              have hfw7 := hf.trans hf7 (fun x hx _ => hx)
              have hs4 : Fr [wB.heap.size] (w6.setCell ⟨g, kk * 3 + 2, none⟩ (.bool false)) ((w6.setCell ⟨g, kk * 3 + 2, none⟩ (.bool false)).setCell ⟨wB.heap.size, 0, none⟩ (.int .i64 ((M : Int) + 1))) := (Fr.refl _ _).setCell (.inl (by simp)) _
              have hO8 := hO7.fr hs4 (fun x hx => by have := List.mem_singleton.1 hx; subst this; exact ⟨hcn, hvc⟩)
              have hc8 := hc7.setCell 0 (.int .i64 ((M : Int) + 1))
              have hf8 := hf7.trans' (hs4.mono (fun x hx _ => by have := List.mem_singleton.1 hx; subst this; exact List.mem_cons_self))
              have hfw8 := hf.trans hf8 (fun x hx _ => hx)
              have lc := hc8.lt
              have hB8 := fun z hz => (hO8.ltB z hz).2.1
              clear Hfix Hflat Hset Hno Hown Hfx Ht Hcnt eT HM Hhost hcells hfroz
              clear eo
              gi_wp2
              exact ⟨_, ⟨_, M + 1, HM1, rfl, hc8, hO8, hl7.trans Hl2.out, e9.out, hfw8⟩, hf8, fun z hz => ⟨by rcases List.mem_cons.1 hz with rfl | hz; exact lc; exact hB8 z hz, .inl hz⟩⟩
          | true =>
            obtain ⟨H, hqH, hHm⟩ := Hhost hh
            have eo := Hown.out
            rw [hh] at eo
            subst hqH
            by_cases h0 : i = 0
            · simp only [h0, decide_true, Bool.and_true, Bool.true_and, Int.toNat_natCast] at eo
              subst h0
              have hHc : H < c.length := by rw [hrl]; exact hHm
              obtain ⟨bg, bo, hae, _, _⟩ := SlI.at (hcN w6 hf26) hHc
              subst hae
              have hcH : ∀ X, Fr [] A2 X → X.cell? ⟨bg, bo + H, none⟩ = some (.int .i64 (c.getD H 0)) := fun X hX => by
                obtain ⟨b', o', he, _, h⟩ := SlI.at (hcN X hX) hHc
                cases he
                exact h
              clear hHc
              generalize c.getD H 0 = x at *
              iterate 5
                refine wpG_pure fun K hK => ?_
                go_simp
                refine hK _ ?_
                clear hK K
              refine wpG_val (.slice (some ⟨bg, bo, none⟩) n.length cl) (by first | rfl | go_simp) (fun X hX => by have cc := (hlN X (hFd.trans0 hX)).cell; go_simp) ?_
              simp only [Act.put, List.setIfInBounds_toArray, List.set_cons_zero, List.set_cons_succ]
              iterate 3
                refine wpG_pure fun K hK => ?_
                go_simp
                refine hK _ ?_
                clear hK K
              refine wpG_val (.pointer (some ⟨g, kk * 3, none⟩)) (by first | rfl | go_simp) (fun X hX => by have cc := (hpd.fr0 hX).cell; go_simp) ?_
              simp only [Act.put, List.setIfInBounds_toArray, List.set_cons_zero, List.set_cons_succ]
              iterate 2
                refine wpG_pure fun K hK => ?_
                go_simp
                refine hK _ ?_
                clear hK K
              refine wpG_val (.int .i64 H) (by first | rfl | go_simp) (fun X hX => by obtain ⟨e0, e1, e2⟩ := hcells X (hFd.trans0 hX); go_simp) ?_
              simp only [Act.put, List.setIfInBounds_toArray, List.set_cons_zero, List.set_cons_succ]
              iterate 1
                refine wpG_pure fun K hK => ?_
                go_simp
                refine hK _ ?_
                clear hK K
              refine wpG_val (.int .i64 x) (by first | rfl | go_simp) (fun X hX => by have cc := hcH X (hFd.trans0 hX); go_simp) ?_
              simp only [Act.put, List.setIfInBounds_toArray, List.set_cons_zero, List.set_cons_succ]
              iterate 3
                refine wpG_pure fun K hK => ?_
                go_simp
                refine hK _ ?_
                clear hK K
              refine wpG_end ?_
              have hbe : (x == 1) = decide (x = 1) := by rw [Bool.eq_iff_iff]; simp
              rw [hbe] at eo
              by_cases hx : x = 1
              · simp only [hx, decide_true] at eo
                subst hx
                cases r with
                | false =>
                  have eT := Ht.out
                  rw [eo] at eT
                  have HM1 : Hid (M + 1 = C1 + cntTo (turn2 n.length (len0 ls) c gs) (k + 1)) := hidIt (by rw [Hcnt.out, eT]; simp; rw [HM.out]; omega)
                  have e9 : Hid ((ls3.set 0 ((ls3.getD 0 []).set kk (p, (H : Int), true))).flatten = fixTo (fix2 n.length (len0 ls) c) gs (k + 1)) := hidIt (by rw [Hfix.out, Hflat, Hfx.out, eo])
                  have hO7 := Hset w6 true hf26
                  have hl7 := hlens (p, (H : Int), true)
                  have hs3 : Fr [g] w6 (w6.setCell ⟨g, kk * 3 + 2, none⟩ (.bool true)) := (Fr.refl _ _).setCell (.inl (by simp)) _
                  have hc7 := hc6.fr hs3 (by simp; omega)
                  have hf7 : Fr (wB.heap.size :: outB vs) A2 (w6.setCell ⟨g, kk * 3 + 2, none⟩ (.bool true)) := hf26.weak.trans' (hs3.mono (fun x hx _ => by have := List.mem_singleton.1 hx; subst this; exact List.mem_cons_of_mem _ hgB))
                  have hfw7 := hf.trans hf7 (fun x hx _ => hx)
                  have hs4 : Fr [wB.heap.size] (w6.setCell ⟨g, kk * 3 + 2, none⟩ (.bool true)) ((w6.setCell ⟨g, kk * 3 + 2, none⟩ (.bool true)).setCell ⟨wB.heap.size, 0, none⟩ (.int .i64 ((M : Int) + 1))) := (Fr.refl _ _).setCell (.inl (by simp)) _
                  have hO8 := hO7.fr hs4 (fun x hx => by have := List.mem_singleton.1 hx; subst this; exact ⟨hcn, hvc⟩)
                  have hc8 := hc7.setCell 0 (.int .i64 ((M : Int) + 1))
                  have hf8 := hf7.trans' (hs4.mono (fun x hx _ => by have := List.mem_singleton.1 hx; subst this; exact List.mem_cons_self))
                  have hfw8 := hf.trans hf8 (fun x hx _ => hx)
                  have lc := hc8.lt
                  have hB8 := fun z hz => (hO8.ltB z hz).2.1
                  clear Hfix Hflat Hset Hno Hown Hfx Ht Hcnt eT HM Hhost hcells hfroz
                  clear eo
                  gi_wp2
                  exact ⟨_, ⟨_, M + 1, HM1, rfl, hc8, hO8, hl7.trans Hl2.out, e9.out, hfw8⟩, hf8, fun z hz => ⟨by rcases List.mem_cons.1 hz with rfl | hz; exact lc; exact hB8 z hz, .inl hz⟩⟩
                | true =>
                  have hO6 := hO'.fr0 hf26
                  have hfw := hf.trans0 hf26
                  have hB6 := fun z hz => (hO6.ltB z hz).2.1
                  have lc := hc6.lt
                  have e9 := Hno (by rw [Hfx.out, eo])
                  have eT := Ht.out
                  rw [eo] at eT
                  have HM1 : Hid (M = C1 + cntTo (turn2 n.length (len0 ls) c gs) (k + 1)) := hidIt (by rw [Hcnt.out, eT]; simp; exact HM.out)
                  clear Hfix Hflat Hset Hno Hown Hfx Ht Hcnt eT HM Hhost hcells hfroz
                  clear eo
                  gi_wp2
                  exact ⟨_, ⟨ls3, M, HM1, rfl, hc6, hO6, Hl2.out, by rw [e9.out]; exact Hfl.out, hfw⟩, hf26.weak, fun z hz => ⟨by rcases List.mem_cons.1 hz with rfl | hz; exact lc; exact hB6 z hz, .inl hz⟩⟩
              · simp only [hx, decide_false] at eo
                have hx1 : (x == 1) = false := by rw [hbe]; simp [hx]
                cases r with
                | false =>
                  have hO6 := hO'.fr0 hf26
                  have hfw := hf.trans0 hf26
                  have hB6 := fun z hz => (hO6.ltB z hz).2.1
                  have lc := hc6.lt
                  have e9 := Hno (by rw [Hfx.out, eo])
                  have eT := Ht.out
                  rw [eo] at eT
                  have HM1 : Hid (M = C1 + cntTo (turn2 n.length (len0 ls) c gs) (k + 1)) := hidIt (by rw [Hcnt.out, eT]; simp; exact HM.out)
                  clear Hfix Hflat Hset Hno Hown Hfx Ht Hcnt eT HM Hhost hcells hfroz
                  clear eo
                  gi_wp2
                  exact ⟨_, ⟨ls3, M, HM1, rfl, hc6, hO6, Hl2.out, by rw [e9.out]; exact Hfl.out, hfw⟩, hf26.weak, fun z hz => ⟨by rcases List.mem_cons.1 hz with rfl | hz; exact lc; exact hB6 z hz, .inl hz⟩⟩
                | true =>
                  have eT := Ht.out
                  rw [eo] at eT
                  have HM1 : Hid (M + 1 = C1 + cntTo (turn2 n.length (len0 ls) c gs) (k + 1)) := hidIt (by rw [Hcnt.out, eT]; simp; rw [HM.out]; omega)
                  have e9 : Hid ((ls3.set 0 ((ls3.getD 0 []).set kk (p, (H : Int), false))).flatten = fixTo (fix2 n.length (len0 ls) c) gs (k + 1)) := hidIt (by rw [Hfix.out, Hflat, Hfx.out, eo])
                  have hO7 := Hset w6 false hf26
                  have hl7 := hlens (p, (H : Int), false)
                  have hs3 : Fr [g] w6 (w6.setCell ⟨g, kk * 3 + 2, none⟩ (.bool false)) := (Fr.refl _ _).setCell (.inl (by simp)) _
                  have hc7 := hc6.fr hs3 (by simp; omega)
                  have hf7 : Fr (wB.heap.size :: outB vs) A2 (w6.setCell ⟨g, kk * 3 + 2, none⟩ (.bool false)) := hf26.weak.trans' (hs3.mono (fun x hx _ => by have := List.mem_singleton.1 hx; subst this; exact List.mem_cons_of_mem _ hgB))
                  have hfw7 := hf.trans hf7 (fun x hx _ => hx)
                  have hs4 : Fr [wB.heap.size] (w6.setCell ⟨g, kk * 3 + 2, none⟩ (.bool false)) ((w6.setCell ⟨g, kk * 3 + 2, none⟩ (.bool false)).setCell ⟨wB.heap.size, 0, none⟩ (.int .i64 ((M : Int) + 1))) := (Fr.refl _ _).setCell (.inl (by simp)) _
                  have hO8 := hO7.fr hs4 (fun x hx => by have := List.mem_singleton.1 hx; subst this; exact ⟨hcn, hvc⟩)
                  have hc8 := hc7.setCell 0 (.int .i64 ((M : Int) + 1))
                  have hf8 := hf7.trans' (hs4.mono (fun x hx _ => by have := List.mem_singleton.1 hx; subst this; exact List.mem_cons_self))
                  have hfw8 := hf.trans hf8 (fun x hx _ => hx)
                  have lc := hc8.lt
                  have hB8 := fun z hz => (hO8.ltB z hz).2.1
                  clear Hfix Hflat Hset Hno Hown Hfx Ht Hcnt eT HM Hhost hcells hfroz
                  clear eo
                  gi_wp2
                  exact ⟨_, ⟨_, M + 1, HM1, rfl, hc8, hO8, hl7.trans Hl2.out, e9.out, hfw8⟩, hf8, fun z hz => ⟨by rcases List.mem_cons.1 hz with rfl | hz; exact lc; exact hB8 z hz, .inl hz⟩⟩
            · have h1 : ((i : Int) == 0) = false := by simp; omega
              simp only [h0, decide_false, Bool.and_false, Bool.false_and] at eo
              iterate 18
                refine wpG_pure fun K hK => ?_
                go_simp
                refine hK _ ?_
                clear hK K
              refine wpG_end ?_
              cases r with
              | false =>
                have hO6 := hO'.fr0 hf26
                have hfw := hf.trans0 hf26
                have hB6 := fun z hz => (hO6.ltB z hz).2.1
                have lc := hc6.lt
                have e9 := Hno (by rw [Hfx.out, eo])
                have eT := Ht.out
                rw [eo] at eT
                have HM1 : Hid (M = C1 + cntTo (turn2 n.length (len0 ls) c gs) (k + 1)) := hidIt (by rw [Hcnt.out, eT]; simp; exact HM.out)
                clear Hfix Hflat Hset Hno Hown Hfx Ht Hcnt eT HM Hhost hcells hfroz
                clear eo
                gi_wp2
                exact ⟨_, ⟨ls3, M, HM1, rfl, hc6, hO6, Hl2.out, by rw [e9.out]; exact Hfl.out, hfw⟩, hf26.weak, fun z hz => ⟨by rcases List.mem_cons.1 hz with rfl | hz; exact lc; exact hB6 z hz, .inl hz⟩⟩
              | true =>
                have eT := Ht.out
                rw [eo] at eT
                have HM1 : Hid (M + 1 = C1 + cntTo (turn2 n.length (len0 ls) c gs) (k + 1)) := hidIt (by rw [Hcnt.out, eT]; simp; rw [HM.out]; omega)
                have e9 : Hid ((ls3.set i ((ls3.getD i []).set kk (p, (H : Int), false))).flatten = fixTo (fix2 n.length (len0 ls) c) gs (k + 1)) := hidIt (by rw [Hfix.out, Hflat, Hfx.out, eo])
                have hO7 := Hset w6 false hf26
                have hl7 := hlens (p, (H : Int), false)
                have hs3 : Fr [g] w6 (w6.setCell ⟨g, kk * 3 + 2, none⟩ (.bool false)) := (Fr.refl _ _).setCell (.inl (by simp)) _
                have hc7 := hc6.fr hs3 (by simp; omega)
                have hf7 : Fr (wB.heap.size :: outB vs) A2 (w6.setCell ⟨g, kk * 3 + 2, none⟩ (.bool false)) := hf26.weak.trans' (hs3.mono (fun x hx _ => by have := List.mem_singleton.1 hx; subst this; exact List.mem_cons_of_mem _ hgB))
                have hfw7 := hf.trans hf7 (fun x hx _ => hx)
                have hs4 : Fr [wB.heap.size] (w6.setCell ⟨g, kk * 3 + 2, none⟩ (.bool false)) ((w6.setCell ⟨g, kk * 3 + 2, none⟩ (.bool false)).setCell ⟨wB.heap.size, 0, none⟩ (.int .i64 ((M : Int) + 1))) := (Fr.refl _ _).setCell (.inl (by simp)) _
                have hO8 := hO7.fr hs4 (fun x hx => by have := List.mem_singleton.1 hx; subst this; exact ⟨hcn, hvc⟩)
                have hc8 := hc7.setCell 0 (.int .i64 ((M : Int) + 1))
                have hf8 := hf7.trans' (hs4.mono (fun x hx _ => by have := List.mem_singleton.1 hx; subst this; exact List.mem_cons_self))
                have hfw8 := hf.trans hf8 (fun x hx _ => hx)
                have lc := hc8.lt
                have hB8 := fun z hz => (hO8.ltB z hz).2.1
                clear Hfix Hflat Hset Hno Hown Hfx Ht Hcnt eT HM Hhost hcells hfroz
                clear eo
                gi_wp2
                exact ⟨_, ⟨_, M + 1, HM1, rfl, hc8, hO8, hl7.trans Hl2.out, e9.out, hfw8⟩, hf8, fun z hz => ⟨by rcases List.mem_cons.1 hz with rfl | hz; exact lc; exact hB8 z hz, .inl hz⟩⟩
        case done =>
          rintro D2 f W4 h3 h4 ⟨ls3, M, HM, rfl, hBc4, hO4, hl4, hfl4, hf4⟩ hK2
          clear hseq heg
          rw [fixTo_all] at hfl4
          rw [hgl] at HM
          have hz4 := hf4.size
          have hC2 := cntTo_le (turn2 n.length (len0 ls) c gs) fs.length
          have hM2 : M ≤ 2097152 := by rw [HM.out]; omega
          have hni : ∀ x, wB.heap.size < x → x ∉ wB.heap.size :: outB vs := fun x hx h => by
            rcases List.mem_cons.1 h with h | h
            · omega
            · have := hltB _ h; omega
          have hn4 : Blk W4 w.heap.size [.slice an n.length capn] 57 := hB2.fr hf4 (fun h => by
            rcases List.mem_cons.1 h with h | h
            · omega
            · have := hltB _ h; omega)
          have hl5 := Bl.fr hf4 (hni _ (by omega))
          have hK4 : W4.heap[D]? = some (.deferred (some [])) := (hf4.block D (by omega) (hni _ (by omega))).trans hK3
          have ho4 := owns_fr ho hf4 (fun x hx h => hni x (by have := hob x hx; omega) h)
          have hf4w : Fr [] w W4 := (hf0.trans0 hf).trans hf4 (fun x hx hl => by
            rcases List.mem_cons.1 hx with h | h
            · omega
            · have := hltB _ h; omega)
          have hmk : Marks (w.heap.size + 1) [D2, D] W4 := (Marks.nil _ _).cons hK4 (by omega) (by simp) |>.cons hK2 (by omega) (by simp; omega)
          have hDc : ∀ x ∈ [D2, D], wB.heap.size < x ∧ x ∉ outB vs ∧ (Value.slice a ls.length cap).ownBlock ≠ some x ∧ (Value.slice al n.length cl).ownBlock ≠ some x := fun x hx => by
            have hx' : x = D2 ∨ x = D := by simpa using hx
            have q1 : wB.heap.size < x := by omega
            exact ⟨q1, fun h => hni x q1 (List.mem_cons_of_mem _ h), fun h => by have := hlow x h; omega, fun h => by have := hob x h; have := (ho.lt x h).2; omega⟩
          have hsc4 : SlI W4 (.slice al n.length cl) c := SlF.of_owns (by rw [hrl]; exact ho4)
          clear hf4 hBc hB2 hO' hl' hfl hf Bl ho hK3 hK2 hK4 hsc
          have c2 := hn4.cell
          go_wp2_with fail
          go_loopw [105] (fun i wr => ∃ j M2 : Nat, j ≤ n.length ∧ i = .int .i64 j ∧ Hid (M2 = M + cntTo (diffAt n c) j) ∧ Blk wr wB.heap.size [.int .i64 (M2 : Int)] 3 ∧ Fr [wB.heap.size] W4 wr) (fun i _ => n.length - (intOf i).toNat)
          case atStart => exact ⟨0, M, Nat.zero_le _, rfl, hidIt rfl, hBc4, Fr.refl _ _⟩
          case round =>
            obtain ⟨j, M2, hj, rfl, HM2, hBc5, hf5⟩ := hrel
            have hz5 := hf5.size
            have hcn5 : wB.heap.size ∉ [] := by simp
            have hf5w := hf4w.trans hf5 (fun x hx hl => by have := List.mem_singleton.1 hx; omega)
            by_cases hlt : j < n.length
            · have hn5 := hn4.fr hf5 (by simp; omega)
              have hl6 := hl5.fr hf5 (by simp; omega)
              have hjc : j < c.length := by rw [hrl]; exact hlt
              obtain ⟨bn, on, rfl, hbn, en⟩ := SlI.at (SlF.fr0 hv hf5w : SlI _ _ _) hlt
              have hsc5 : SlI wr (.slice al n.length cl) c := SlF.fr hsc4 hf5 (fun x hx h => by have := hob x hx; have := List.mem_singleton.1 h; omega)
              obtain ⟨bc, oc, rfl, hbc, ec⟩ := SlI.at hsc5 hjc
              have Hst := hidIt (cntTo_succ (diffAt n c) j)
              have Hd : Hid (diffAt n c j = (n.getD j 0 != c.getD j 0)) := hidIt rfl
              have hcd := cntTo_le (diffAt n c) j
              have hM3 : M2 ≤ 4194304 := by rw [HM2.out]; omega
              have lc := hBc5.lt
              have c5 := hBc5.cell
              have f5 := hBc5.frozen
              have hFd : Fr [] wr wr.drew := (Fr.refl _ _).drew
              generalize n.getD j 0 = x at *
              generalize c.getD j 0 = y at *
              have hen : ∀ X, Fr [] wr X → X.cell? ⟨bn, on + j, none⟩ = some (.int .i64 x) := fun X hX => (World.cell?_of_block (hX.block bn hbn (by simp))).trans en
              have hec : ∀ X, Fr [] wr X → X.cell? ⟨bc, oc + j, none⟩ = some (.int .i64 y) := fun X hX => (World.cell?_of_block (hX.block bc hbc (by simp))).trans ec
              clear hcd hjc hsc5 en ec
              have hjn : (j : Int) < n.length := by omega
              have hj0 : (0 : Int) ≤ j := by omega
              have hxb : (x != y) = !decide (x = y) := by simp only [bne]; congr 1
              rw [hxb] at Hd
              go_wp2_with fail
              refine wp_region_G (Fr [] wr.drew) [(true, 0), (true, 1), (true, 2), (true, 3), (true, 4), (true, 5), (true, 6), (true, 7), (true, 8)] (by as_aux_lemma => kernel_rfl) (by as_aux_lemma => kernel_rfl) (Fr.refl _ _) ?_
              simp only [inOrder, List.map_cons, List.map_nil, List.getD_cons_zero, List.getD_cons_succ]
              refine wpG_val (.slice (some ⟨bn, on, none⟩) n.length capn) (by first | rfl | go_simp) (fun X hX => by have cc := ((hn5.fr0 hFd).fr0 hX).cell; go_simp) ?_
              simp only [Act.put, List.setIfInBounds_toArray, List.set_cons_zero, List.set_cons_succ]
              iterate 2
                refine wpG_pure fun K hK => ?_
                go_simp
                refine hK _ ?_
                clear hK K
              refine wpG_val (.int .i64 x) (by first | rfl | go_simp) (fun X hX => by have cc := hen X (hFd.trans0 hX); go_simp) ?_
              simp only [Act.put, List.setIfInBounds_toArray, List.set_cons_zero, List.set_cons_succ]
              refine wpG_val (.slice (some ⟨bc, oc, none⟩) n.length cl) (by first | rfl | go_simp) (fun X hX => by have cc := ((hl6.fr0 hFd).fr0 hX).cell; go_simp) ?_
              simp only [Act.put, List.setIfInBounds_toArray, List.set_cons_zero, List.set_cons_succ]
              iterate 2
                refine wpG_pure fun K hK => ?_
                go_simp
                refine hK _ ?_
                clear hK K
              refine wpG_val (.int .i64 y) (by first | rfl | go_simp) (fun X hX => by have cc := hec X (hFd.trans0 hX); go_simp) ?_
              simp only [Act.put, List.setIfInBounds_toArray, List.set_cons_zero, List.set_cons_succ]
              iterate 1
                refine wpG_pure fun K hK => ?_
                go_simp
                refine hK _ ?_
                clear hK K
              refine wpG_end ?_
              clear hen hec hn5 hl6
              have hFd' : Fr [wB.heap.size] W4 wr.drew := hf5.trans0 hFd
              have hBc6 := hBc5.fr0 hFd
              generalize decide (x = y) = B at *
              cases B with
              | true =>
                have hM6 : Hid (M2 = M + cntTo (diffAt n c) (j + 1)) := hidIt (by rw [Hst.out, Hd.out]; simp; exact HM2.out)
                clear Hst Hd HM2
                go_wp2
                go_roundw
                case rel => exact ⟨j + 1, M2, by omega, by go_num, hM6, hBc6, hFd'⟩
                case measure => simp [intOf]; omega
              | false =>
                have hM6 : Hid (M2 + 1 = M + cntTo (diffAt n c) (j + 1)) := hidIt (by rw [Hst.out, Hd.out]; simp; rw [HM2.out]; omega)
                clear Hst Hd HM2
                go_wp2
                go_roundw
                case rel => exact ⟨j + 1, M2 + 1, by omega, by go_num, hM6, hBc6.setCell 0 _, hFd'.setCell (.inl (by simp)) _⟩
                case measure => simp [intOf]; omega
            · have hje : j = n.length := by omega
              subst hje
              have hn5 := hn4.fr hf5 (by simp; omega)
              have hl6 := hl5.fr hf5 (by simp; omega)
              have hO5 := hO4.fr hf5 (fun x hx => by have := List.mem_singleton.1 hx; subst this; exact ⟨hcn, hvc⟩)
              have ho5 := owns_fr ho4 hf5 (fun x hx h => by have := hob x hx; have := List.mem_singleton.1 h; omega)
              have hmk5 := hmk.fr hf5 (fun x hx h => by have := (hDc x hx).1; have := List.mem_singleton.1 h; omega)
              have hFd : Fr [] wr wr.drew := (Fr.refl _ _).drew
              clear hltB hni hsc4 ho4 hO4 hmk hf5
              go_wp2_with fail
              refine wp_region_G (Fr [] wr.drew) [(true, 0), (true, 1), (true, 2), (true, 3), (true, 4), (true, 5)] (by as_aux_lemma => kernel_rfl) (by as_aux_lemma => kernel_rfl) (Fr.refl _ _) ?_
              simp only [inOrder, List.map_cons, List.map_nil, List.getD_cons_zero, List.getD_cons_succ]
              refine wpG_val (.slice al n.length cl) (by first | rfl | go_simp) (fun X hX => by have cc := ((hl6.fr0 hFd).fr0 hX).cell; go_simp) ?_
              simp only [Act.put, List.setIfInBounds_toArray, List.set_cons_zero, List.set_cons_succ]
              iterate 1
                refine wpG_pure fun K hK => ?_
                go_simp
                refine hK _ ?_
                clear hK K
              refine wpG_val (.int .i64 M2) (by first | rfl | go_simp) (fun X hX => by have cc := ((hBc5.fr0 hFd).fr0 hX).cell; go_simp) ?_
              simp only [Act.put, List.setIfInBounds_toArray, List.set_cons_zero, List.set_cons_succ]
              iterate 3
                refine wpG_pure fun K hK => ?_
                go_simp
                refine hK _ ?_
                clear hK K
              refine wpG_end ?_
              go_wp2
              refine leave_marks (s := w.heap.size + 1) (Ds := [D2, D]) (v := .tuple #[.slice al n.length cl, .slice a ls.length cap, .int .i64 M2]) rfl (hmk5.fr0 hFd) (fun W' hF' => ?_) fun W' hF' => ⟨.slice al n.length cl, .slice a ls.length cap, vs, ls3, ?_, ?_, ?_, hl4, ?_, ?_⟩
              · simp [results, Tryz.results41, go_sem]
              · rw [hfs, hgs, hc, hC1e, HM2.out, HM.out]
              · rw [hfs, hgs, hc]
                exact owns_fr (owns_base (owns_fr ho5 hFd (by simp)) (by omega)) hF' (fun x hx h => (hDc x h).2.2.2 hx)
              · exact ((hO5.fr0 hFd).fr hF' (fun x hx => ⟨(hDc x hx).2.1, (hDc x hx).2.2.1⟩)).base (by omega)
              · rw [hfs, hgs, hc]; exact hfl4
              · exact (hf5w.trans0 hFd).trans hF' (fun x hx hl => by have := (hDc x hx).1; omega)
end Go.Proofs.YtilhbjjjmdnjmaaGreat
