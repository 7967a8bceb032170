/-
  Rows of slots that are one's own; slices.Clone of a row; what Repair comes to, in plain Lean.
-/
import Derived.Test.YtmbbmombhkaeoaaChkL
namespace Go.Proofs.Ytmbbmombhkaeoaa
open Go.RowKit Go.Maps
attribute [local go_sem] Oper.semAt_some

structure OutV (w : World) (base : Nat) (v : Value) (vs : List Value) (ls : List (List Slt)) : Prop where
  row : w.ownsRow base 41 1 v ls.length vs
  len : vs.length = ls.length
  own : ∀ (i : Nat) (u : Value), vs[i]? = some u → w.ownsRow base 45 3 u (ls.getD i []).length ((ls.getD i []).flatMap slotC)
  ne : ∀ (i j : Nat) (u u' : Value) (b : Nat), i ≠ j → vs[i]? = some u → vs[j]? = some u' → u.ownBlock = some b → u'.ownBlock ≠ some b
  nv : ∀ (i : Nat) (u : Value) (b : Nat), vs[i]? = some u → u.ownBlock = some b → v.ownBlock ≠ some b
theorem OutV.nil (w : World) (base : Nat) : OutV w base (.slice none 0 0) [] [] := ⟨World.ownsRow_nil _ _ _ _, rfl, fun i u h => by simp at h, fun i j u u' b _ h => by simp at h, fun i u b h => by simp at h⟩
theorem OutV.rows {w : World} {base : Nat} {v : Value} {vs : List Value} {ls : List (List Slt)} (h : OutV w base v vs ls) : RowsV w v vs ls := ⟨h.len, Sl.of_owns h.row, fun i u hu => SlF.of_owns (h.own i u hu)⟩
theorem OutV.slr {w : World} {base : Nat} {v : Value} {vs : List Value} {ls : List (List Slt)} (h : OutV w base v vs ls) : SlR w v ls := ⟨vs, h.rows⟩
/-- its blocks -/
def outB (vs : List Value) : List Nat := vs.filterMap Value.ownBlock
theorem outB_mem {vs : List Value} {i : Nat} {u : Value} {b : Nat} (hu : vs[i]? = some u) (hb : u.ownBlock = some b) : b ∈ outB vs := List.mem_filterMap.2 ⟨u, List.mem_of_getElem? hu, hb⟩
theorem OutV.ltB {w : World} {base : Nat} {v : Value} {vs : List Value} {ls : List (List Slt)} (h : OutV w base v vs ls) : ∀ x ∈ outB vs, base ≤ x ∧ x < w.heap.size ∧ v.ownBlock ≠ some x := by
  intro x hx
  obtain ⟨u, hu, hb⟩ := List.mem_filterMap.1 hx
  obtain ⟨i, hi, rfl⟩ := List.getElem_of_mem hu
  have hi' := List.getElem?_eq_getElem hi
  have := (h.own i _ hi').lt x hb
  exact ⟨this.1, this.2, h.nv i _ x hi' hb⟩
theorem OutV.fr {L : List Nat} {w w' : World} {base : Nat} {v : Value} {vs : List Value} {ls : List (List Slt)} (h : OutV w base v vs ls) (hf : Fr L w w') (hL : ∀ x ∈ L, x ∉ outB vs ∧ v.ownBlock ≠ some x) : OutV w' base v vs ls :=
  ⟨owns_fr h.row hf (fun k hk hm => (hL k hm).2 hk), h.len, fun i u hu => owns_fr (h.own i u hu) hf (fun k hk hm => (hL k hm).1 (outB_mem hu hk)), h.ne, h.nv⟩
theorem OutV.fr0 {w w' : World} {base : Nat} {v : Value} {vs : List Value} {ls : List (List Slt)} (h : OutV w base v vs ls) (hf : Fr [] w w') : OutV w' base v vs ls := h.fr hf (by simp)
theorem OutV.snoc {w0 w w' : World} {base : Nat} {v v' x : Value} {vs : List Value} {ls : List (List Slt)} {l : List Slt} (h : OutV w0 base v vs ls) (hb : base ≤ w0.heap.size) (hf : Fr [] w0 w)
    (hx : w.ownsRow w0.heap.size 45 3 x l.length (l.flatMap slotC)) (hown : w'.ownsRow base 41 1 v' (ls.length + 1) (vs ++ [x])) (hg : w.grownBy w' v.ownBlock)
    (hloc : v'.ownBlock = v.ownBlock ∨ v'.ownBlock = some w.heap.size) : OutV w' base v' (vs ++ [x]) (ls ++ [l]) := by
  have hFg := Fr.of_grown hg
  have hz := hf.size
  have hvl : ∀ b, v.ownBlock = some b → b < w0.heap.size := fun b hb => (h.row.lt b hb).2
  have old : ∀ (i : Nat) (u : Value), vs[i]? = some u → ∀ b, u.ownBlock = some b → b < w0.heap.size := fun i u hu b hb => ((h.own i u hu).lt b hb).2
  have split : ∀ (i : Nat) (u : Value), (vs ++ [x])[i]? = some u → (i < vs.length ∧ vs[i]? = some u) ∨ (i = vs.length ∧ u = x) := fun i u hu => by
    by_cases hi : i < vs.length
    · rw [List.getElem?_append_left hi] at hu; exact .inl ⟨hi, hu⟩
    · have hl := (List.getElem?_eq_some_iff.1 hu).1
      simp at hl
      have e : i = vs.length := by omega
      subst e
      rw [List.getElem?_append_right (Nat.le_refl _)] at hu
      simp at hu
      exact .inr ⟨rfl, hu.symm⟩
  refine ⟨by simpa using hown, by simp [h.len], fun i u hu => ?_, fun i j u u' b hij hu hu' hb1 hb2 => ?_, fun i u b hu hb1 hb2 => ?_⟩
  · rcases split i u hu with ⟨hi, hu⟩ | ⟨rfl, rfl⟩
    · have e : (ls ++ [l]).getD i [] = ls.getD i [] := by
        rw [List.getD_eq_getElem?_getD, List.getElem?_append_left (by rw [← h.len]; exact hi), ← List.getD_eq_getElem?_getD]
      rw [e]
      refine owns_fr (owns_fr (h.own i u hu) hf (by simp)) hFg fun k hk hm => ?_
      exact h.nv i u k hu hk (by simpa using hm)
    · have e : (ls ++ [l]).getD vs.length [] = l := by
        rw [List.getD_eq_getElem?_getD, h.len, List.getElem?_append_right (Nat.le_refl _)]; simp
      rw [e]
      refine owns_fr (owns_base hx hb) hFg fun k hk hm => ?_
      have := (hx.lt k hk).1
      have := hvl k (by simpa using hm)
      omega
  · rcases split i u hu with ⟨hi, hu1⟩ | ⟨e1, e2⟩ <;> rcases split j u' hu' with ⟨hj, hu2⟩ | ⟨e3, e4⟩
    · exact h.ne i j u u' b hij hu1 hu2 hb1 hb2
    · have := old i u hu1 b hb1
      rw [e4] at hb2
      have := (hx.lt b hb2).1
      omega
    · have := old j u' hu2 b hb2
      rw [e2] at hb1
      have := (hx.lt b hb1).1
      omega
    · exact hij (e1.trans e3.symm)
  · have hbx : b < w.heap.size := by
      rcases split i u hu with ⟨hi, hu⟩ | ⟨rfl, rfl⟩
      · have := old i u hu b hb1; omega
      · exact (hx.lt b hb1).2
    rcases hloc with e | e
    · rw [e] at hb2
      rcases split i u hu with ⟨hi, hu⟩ | ⟨rfl, rfl⟩
      · exact h.nv i u b hu hb1 hb2
      · have := (hx.lt b hb1).1
        have := hvl b hb2
        omega
    · rw [e] at hb2; cases hb2; omega
/-- a row's slots are turned -/
theorem OutV.put {w w' : World} {base i g : Nat} {v u : Value} {vs : List Value} {ls : List (List Slt)} {l : List Slt} (h : OutV w base v vs ls) (hu : vs[i]? = some u) (hg : u.ownBlock = some g) (hf : Fr [g] w w')
    (hl : l.length = (ls.getD i []).length) (hown : w'.ownsRow base 45 3 u (ls.getD i []).length (l.flatMap slotC)) : OutV w' base v vs (ls.set i l) := by
  have hi : i < ls.length := by rw [← h.len]; exact (List.getElem?_eq_some_iff.1 hu).1
  refine ⟨?_, by simp [h.len], fun j u' hu' => ?_, h.ne, h.nv⟩
  · rw [List.length_set]
    exact owns_fr h.row hf (fun k hk hm => h.nv i u g hu hg (by have := List.mem_singleton.1 hm; subst this; exact hk))
  · by_cases hj : j = i
    · subst hj
      rw [hu] at hu'
      cases hu'
      have e : (ls.set j l).getD j [] = l := by rw [List.getD_eq_getElem?_getD, List.getElem?_set_self hi]; rfl
      rw [e, hl]
      exact hown
    · have e : (ls.set i l).getD j [] = ls.getD j [] := by rw [List.getD_eq_getElem?_getD, List.getElem?_set_ne (by omega), ← List.getD_eq_getElem?_getD]
      rw [e]
      exact owns_fr (h.own j u' hu') hf (fun k hk hm => by have := List.mem_singleton.1 hm; subst this; exact h.ne j i u' u k hj hu' hu hk hg)
/-- slot k of row i: where it lies -/
theorem OutV.at {w : World} {base i k : Nat} {v : Value} {vs : List Value} {ls : List (List Slt)} (h : OutV w base v vs ls) (hi : i < vs.length) (hk : k < (ls.getD i []).length) :
    ∃ g cap, vs[i]? = some (.slice (some ⟨g, 0, none⟩) (ls.getD i []).length cap) ∧ rowB (vs.getD i undef) = g ∧ rowO (vs.getD i undef) = 0 ∧ base ≤ g ∧ g < w.heap.size ∧ w.ownsRow base 45 3 (.slice (some ⟨g, 0, none⟩) (ls.getD i []).length cap) (ls.getD i []).length ((ls.getD i []).flatMap slotC) := by
  have hu := getD_some undef hi
  have ho := h.own i _ hu
  obtain ⟨g, cap, he, hb, _⟩ := owns_succ ho (by omega)
  rw [he] at ho
  refine ⟨g, cap, by rw [hu, he], by rw [he]; rfl, by rw [he]; rfl, hb, (ho.lt g rfl).2, ho⟩
theorem OutV.set3 {w : World} {base i k g cap : Nat} {v : Value} {vs : List Value} {ls : List (List Slt)} (h : OutV w base v vs ls) (hu : vs[i]? = some (.slice (some ⟨g, 0, none⟩) (ls.getD i []).length cap)) (hk : k < (ls.getD i []).length) (s : Slt) :
    OutV (((w.setCell ⟨g, k * 3, none⟩ (.int .i64 s.1)).setCell ⟨g, k * 3 + 1, none⟩ (.int .i64 s.2.1)).setCell ⟨g, k * 3 + 2, none⟩ (.bool s.2.2)) base v vs (ls.set i ((ls.getD i []).set k s)) :=
  h.put hu rfl (Fr.set3' _ _ _ _ _ _ _ _) (by simp) (owns_put3 (h.own i _ hu) rfl k hk s)
theorem flat3_own (l : List Slt) (k : Nat) (hk : k < l.length) (b : Bool) : (l.set k ((l.getD k zS).1, (l.getD k zS).2.1, b)).flatMap slotC = (l.flatMap slotC).set (k * 3 + 2) (.bool b) := by
  rw [flat3_set l k hk]
  have hat : ∀ j u, j < 3 → (slotC (l.getD k zS))[j]? = some u → (l.flatMap slotC)[k * 3 + j]? = some u := fun j u hj hu => by
    rw [flat_at slotC 3 (fun _ => rfl) l k j hj, getD_some zS hk]; exact hu
  have h0 := hat 0 _ (by omega) rfl
  have h1 := hat 1 _ (by omega) rfl
  have e0 : (l.flatMap slotC).set (k * 3) (.int .i64 (l.getD k zS).1) = l.flatMap slotC := by
    apply List.ext_getElem?
    intro q
    rw [List.getElem?_set]
    split
    · rename_i e; subst e; rw [Nat.add_zero] at h0; rw [h0, if_pos (List.getElem?_eq_some_iff.1 h0).1]
    · rfl
  have e1 : (l.flatMap slotC).set (k * 3 + 1) (.int .i64 (l.getD k zS).2.1) = l.flatMap slotC := by
    apply List.ext_getElem?
    intro q
    rw [List.getElem?_set]
    split
    · rename_i e; subst e; rw [h1, if_pos (List.getElem?_eq_some_iff.1 h1).1]
    · rfl
  simp only
  rw [e0, e1]
theorem OutV.setOwn {w : World} {base i k g cap : Nat} {v : Value} {vs : List Value} {ls : List (List Slt)} (h : OutV w base v vs ls) (hu : vs[i]? = some (.slice (some ⟨g, 0, none⟩) (ls.getD i []).length cap)) (hk : k < (ls.getD i []).length) (b : Bool) :
    OutV (w.setCell ⟨g, k * 3 + 2, none⟩ (.bool b)) base v vs (ls.set i ((ls.getD i []).set k (((ls.getD i []).getD k zS).1, ((ls.getD i []).getD k zS).2.1, b))) :=
  h.put hu rfl ((Fr.refl _ w).setCell (.inl (by simp)) _) (by simp) (by rw [flat3_own _ k hk]; exact owns_put (h.own i _ hu) _ _)
theorem flatten_set : ∀ (ls : List (List Slt)) (i k : Nat) (s : Slt), i < ls.length → k < (ls.getD i []).length → (ls.set i ((ls.getD i []).set k s)).flatten = ls.flatten.set (((ls.take i).map List.length).sum + k) s
  | l :: ls, 0, k, s, _, hk => by
    simp only [List.getD_cons_zero] at hk
    simp [List.set_append_left _ _ hk]
  | l :: ls, i + 1, k, s, hi, hk => by
    simp only [List.getD_cons_succ] at hk
    have := flatten_set ls i k s (by simpa using hi) hk
    simp only [List.set_cons_succ, List.getD_cons_succ, List.flatten_cons, List.take_succ_cons, List.map_cons, List.sum_cons, this]
    rw [List.set_append_right _ _ (by omega)]
    congr 2
    omega
theorem lens_set (ls : List (List Slt)) (i : Nat) (l : List Slt) (h : l.length = (ls.getD i []).length) : (ls.set i l).map List.length = ls.map List.length := by
  apply List.ext_getElem?
  intro k
  simp only [List.getElem?_map, List.getElem?_set]
  split
  · rename_i e
    subst e
    split
    · rename_i hl
      rw [List.getD_eq_getElem?_getD, List.getElem?_eq_getElem hl] at h
      rw [List.getElem?_eq_getElem hl, Option.map_some, h]; rfl
    · rename_i hl; rw [List.getElem?_eq_none (by omega)]
  · rfl
theorem eq_of_flat : ∀ (a b : List (List Slt)), a.map List.length = b.map List.length → a.flatten = b.flatten → a = b
  | [], [], _, _ => rfl
  | [], _ :: _, h, _ => by simp at h
  | _ :: _, [], h, _ => by simp at h
  | x :: a, y :: b, h, hf => by
    simp only [List.map_cons, List.cons.injEq] at h
    simp only [List.flatten_cons] at hf
    obtain ⟨h1, h2⟩ := List.append_inj hf h.1
    rw [h1, eq_of_flat a b h.2 h2]
/-! ### what is turned, slot by slot -/
def fixTo (f : Nat → Slt → Slt) (fs : List Slt) (m : Nat) : List Slt := fs.mapIdx fun j s => if j < m then f j s else s
theorem fixTo_length (f : Nat → Slt → Slt) (fs : List Slt) (m : Nat) : (fixTo f fs m).length = fs.length := by simp [fixTo]
theorem fixTo_get (f : Nat → Slt → Slt) (fs : List Slt) (m k : Nat) : (fixTo f fs m)[k]? = (fs[k]?).map fun s => if k < m then f k s else s := by simp [fixTo]
theorem fixTo_zero (f : Nat → Slt → Slt) (fs : List Slt) : fixTo f fs 0 = fs := by
  apply List.ext_getElem?
  intro k
  rw [fixTo_get]
  cases fs[k]? <;> simp
theorem fixTo_all (f : Nat → Slt → Slt) (fs : List Slt) : fixTo f fs fs.length = fs.mapIdx f := by
  apply List.ext_getElem?
  intro k
  rw [fixTo_get, List.getElem?_mapIdx]
  by_cases h : k < fs.length
  · rw [List.getElem?_eq_getElem h]; simp [h]
  · rw [List.getElem?_eq_none (by omega)]; rfl
theorem fixTo_at (f : Nat → Slt → Slt) (fs : List Slt) (m : Nat) : (fixTo f fs m).getD m zS = fs.getD m zS := by
  rw [List.getD_eq_getElem?_getD, fixTo_get, List.getD_eq_getElem?_getD]
  cases fs[m]? <;> simp
theorem fixTo_succ (f : Nat → Slt → Slt) (fs : List Slt) (m : Nat) (h : m < fs.length) : fixTo f fs (m + 1) = (fixTo f fs m).set m (f m (fs.getD m zS)) := by
  apply List.ext_getElem?
  intro k
  rw [fixTo_get, List.getElem?_set, fixTo_length, fixTo_get]
  by_cases e : m = k
  · subst e
    rw [if_pos rfl, if_pos h, getD_some zS h]
    simp
  · rw [if_neg e]
    by_cases hk : k < m
    · simp only [show k < m + 1 by omega, hk, if_true]
    · simp only [show ¬ k < m + 1 by omega, hk, if_false]
theorem fixTo_same (f : Nat → Slt → Slt) (fs : List Slt) (m : Nat) (h : m < fs.length) (he : f m (fs.getD m zS) = fs.getD m zS) : fixTo f fs (m + 1) = fixTo f fs m := by
  rw [fixTo_succ f fs m h, he]
  apply List.ext_getElem?
  intro k
  rw [List.getElem?_set, fixTo_length]
  split
  · rename_i e
    subst e
    rw [← fixTo_at f fs m, ← getD_some zS (by rw [fixTo_length]; exact h)]
  · rfl
def cntTo (p : Nat → Bool) (m : Nat) : Nat := ((List.range m).filter p).length
theorem cntTo_zero (p : Nat → Bool) : cntTo p 0 = 0 := rfl
theorem cntTo_succ (p : Nat → Bool) (m : Nat) : cntTo p (m + 1) = cntTo p m + if p m = true then 1 else 0 := by
  unfold cntTo
  rw [List.range_succ, List.filter_append, List.length_append]
  by_cases h : p m = true <;> simp [h]
theorem cntTo_le (p : Nat → Bool) (m : Nat) : cntTo p m ≤ m := by
  unfold cntTo
  exact Nat.le_trans (List.length_filter_le _ _) (by simp)
/-- Repair's two turns -/
def fix1 (N : Nat) (s : Slt) : Slt := if badS s (N : Int) then zS else s
def own2 (N l0 : Nat) (c : List Int) (m : Nat) (s : Slt) : Bool := hasS s (N : Int) && decide (m < l0) && (c.getD s.2.1.toNat 0 == 1)
def fix2 (N l0 : Nat) (c : List Int) (m : Nat) (s : Slt) : Slt := (s.1, s.2.1, own2 N l0 c m s)
def turn2 (N l0 : Nat) (c : List Int) (fs : List Slt) (m : Nat) : Bool := own2 N l0 c m (fs.getD m zS) != (fs.getD m zS).2.2
def diffAt (n c : List Int) (h : Nat) : Bool := n.getD h 0 != c.getD h 0
/-! ### slices.Clone -/
set_option maxRecDepth 100000 in
theorem Clone_calls (u : Value) (l : List Slt) (w : World) (hs : SlS w u l) (hl : l.length ≤ 1048576) :
    Calls Try.prog 29 #[u] w fun e w' => ∃ v, e = .returned v ∧ w'.ownsRow w.heap.size 45 3 v l.length (l.flatMap slotC) ∧ Fr [] w w' := by
  obtain ⟨i0, hi, hz0, hz1, hz2⟩ := info_parts infoSlot
  have hs0 := hs
  obtain ⟨a, cap, rfl, hmc, hcm, hc⟩ := hs
  cases a with
  | none =>
    have hn : l = [] := by
      rcases hc with h | ⟨b, off, h, _⟩
      · have := congrArg List.length h
        rw [flat3_length] at this
        exact List.eq_nil_of_length_eq_zero (by simp at this; omega)
      · cases h
    subst hn
    have hq : ∀ (w : World), (binOp .eql 41 (.slice none 0 cap) (.slice none 0 0)).run Try.prog w = .ok (.bool true) w := fun w => Lib.run_eql_slice_nil w _ 45 none 0 cap 0 0 Try.underlying41
    simp only [List.length_nil]
    go_enter Try.func29, Try.ntmps29
    go_wp2
    go_ret
    exact ⟨_, rfl, World.ownsRow_nil _ _ _ _, Fr.refl _ _⟩
  | some ad =>
    have hq : ∀ (w : World), (binOp .eql 41 (.slice (some ad) l.length cap) (.slice none 0 0)).run Try.prog w = .ok (.bool false) w := fun w => Lib.run_eql_slice_nil w _ 45 (some ad) l.length cap 0 0 Try.underlying41
    have hcell : ∀ (j : Nat) (y : Value), (l.flatMap slotC)[j]? = some y → (w.alloc (.cells #[] 45)).cell? (ad.add j) = some y := fun j y hy => by
      rcases hc with he | ⟨b, off, hab, hb, hc⟩
      · rw [he] at hy; cases hy
      · cases hab
        have hadd : (⟨b, off, none⟩ : Addr).add j = ⟨b, off + j, none⟩ := by unfold Addr.add; split <;> simp_all
        rw [hadd]
        exact (World.cell?_of_block (((Fr.refl [] w).alloc _).block b hb (by simp))).trans (hc j y hy)
    clear hs0 hc
    go_enter Try.func29, Try.ntmps29
    go_wp2_with (at_builtin; refine Hid.out ?_)
    refine hidIt ?_
    refine wpList_append_own_at (w.alloc (.cells #[] 45)) rfl _ _ 41 rfl w.heap.size 45 i0 _ 3 24 Try.underlying41 hi hz0 hz1 hz2 rfl (by decide) (.slice (some ⟨w.heap.size, 0, none⟩) 0 0) 0 [] rfl (World.ownsRow_made w #[] 0 (Nat.le_refl _) (by decide) rfl) ad l.length cap (l.flatMap slotC) rfl (flat3_length l) hcell (flat_one (fun _ => slot_one) l) (by unfold maxLen; omega) (by omega) (by simp) ?_
    intro v2 w2 hown2 hgrow2 _ hloc2
    rw [Nat.zero_add, List.nil_append] at hown2
    obtain ⟨a2, c2, rfl, _⟩ := Sl.of_owns hown2
    have hF2 : Fr [] w w2 := ((Fr.refl [] w).alloc _).grown hgrow2 (fun x hx => .inr (by cases hx; exact Nat.le_refl _))
    go_wp2
    go_ret
    exact ⟨_, rfl, hown2, hF2⟩
end Go.Proofs.Ytmbbmombhkaeoaa
