/-
  Package dir: Merge.
-/
import Derived.Test.YtiifmakhfpllnaaGreatM28
import Derived.Test.YtiifmakhfpllnaaGreatM29
namespace Go.Proofs.YtiifmakhfpllnaaGreat
open Go.RowKit Go.Maps
attribute [local go_sem] mapAt_alloc mapAt_setCell mapAt_drew mapAt_drewN

/-- with what another one has, too -/
def mgE (y x : Ent) : Ent := if x.S = y.S then { x with l := mrg x.S x.g x.l y.g y.l, use := x.use && y.use } else x
theorem mgE_name (y x : Ent) : (mgE y x).name = x.name := by unfold mgE; split <;> rfl
def mgC (L : List Cel) (s t : List UInt8) : List Cel := match findC L t with
  | none => L
  | some d => oneC L s (mgE d.x)
def mgCode (L : List Cel) (s t : List UInt8) : Int := match findC L s, findC L t with
  | some c, some d => if c.x.S = d.x.S then 0 else 1
  | _, _ => 112
theorem mgC_none {L : List Cel} {s t : List UInt8} (h : findC L s = none ∨ findC L t = none) : mgC L s t = L ∧ mgCode L s t = 112 := by
  unfold mgC mgCode
  rcases h with h | h
  · rw [h]
    cases findC L t with
    | none => exact ⟨rfl, rfl⟩
    | some d => exact ⟨oneC_none h _, rfl⟩
  · rw [h]
    exact ⟨rfl, by cases findC L s <;> rfl⟩
theorem quiet_look {L : List Cel} {es : Array MapEntry} {clock mb : Nat} {w : World} (hi : IsM Tryz.prog 9 es clock (dirM L)) {s : List UInt8} (hs : s.length ≤ maxLen) (hm : mapAt w mb = some (es, clock)) :
    (Instr.lookup 46 (.map (some mb)) (strL s) false).run Tryz.prog w.drew = .ok (cpt (findC L s)) w.drew := lookD hi hs _ hm
set_option maxRecDepth 100000 in
set_option maxHeartbeats 800000 in
theorem dMerge_none (db mb : Nat) (L : List Cel) (s t : List UInt8) (w : World) (h : DirW w db mb L) (hs : s.length ≤ maxLen) (ht : t.length ≤ maxLen) (hn : findC L s = none ∨ findC L t = none) :
    Calls Tryz.prog 46 #[.pointer (some ⟨db, 0, none⟩), strL s, strL t] w fun e w' => e = .returned (.int .i64 112) ∧ Fr [] w w' := by
  have c0 := h.blk.cell 0
  have c0' := h.blk.drew.cell 0
  obtain ⟨es, clock, hm, hi⟩ := h.map
  have l1 := quiet_look hi hs hm
  have l2 := quiet_look hi ht hm
  have hF := (Fr.refl [] w).drew
  cases h1 : findC L s with
  | none =>
    rw [h1] at l1
    cases h2 : findC L t with
    | none =>
      rw [h2] at l2
      unfold cpt at l1 l2
      go_enter Tryz.func46, Tryz.ntmps46
      go_wp2_with fail
      refine wp_region_still_tail 13 follows (by as_aux_lemma => kernel_rfl) ?_
      simp only [List.take_succ_cons, List.take_zero, List.drop_succ_cons, List.drop_zero]
      change wpStill _ _ (World.drew _) _ _ _
      iterate 13 still_step
      refine wpStill_nil ?_
      change wpList _ _ _ _ _ (World.drew _)
      go_wp2
      go_ret
      exact ⟨rfl, hF⟩
    | some d =>
      rw [h2] at l2
      unfold cpt Cel.ptr at l1 l2
      go_enter Tryz.func46, Tryz.ntmps46
      go_wp2_with fail
      refine wp_region_still_tail 13 follows (by as_aux_lemma => kernel_rfl) ?_
      simp only [List.take_succ_cons, List.take_zero, List.drop_succ_cons, List.drop_zero]
      change wpStill _ _ (World.drew _) _ _ _
      iterate 13 still_step
      refine wpStill_nil ?_
      change wpList _ _ _ _ _ (World.drew _)
      go_wp2
      go_ret
      exact ⟨rfl, hF⟩
  | some c =>
    have h2 : findC L t = none := by rcases hn with hn | hn; (rw [h1] at hn; cases hn); exact hn
    rw [h1] at l1
    rw [h2] at l2
    unfold cpt Cel.ptr at l1 l2
    go_enter Tryz.func46, Tryz.ntmps46
    go_wp2_with fail
    refine wp_region_still_tail 13 follows (by as_aux_lemma => kernel_rfl) ?_
    simp only [List.take_succ_cons, List.take_zero, List.drop_succ_cons, List.drop_zero]
    change wpStill _ _ (World.drew _) _ _ _
    iterate 13 still_step
    refine wpStill_nil ?_
    change wpList _ _ _ _ _ (World.drew _)
    go_wp2
    go_ret
    exact ⟨rfl, hF⟩
set_option maxRecDepth 100000 in
set_option maxHeartbeats 800000 in
theorem dMerge_some (db mb : Nat) (L : List Cel) (s t : List UInt8) (c d : Cel) (w : World) (h : DirW w db mb L) (hs : s.length ≤ maxLen) (ht : t.length ≤ maxLen) (h1 : findC L s = some c) (h2 : findC L t = some d) :
    Calls Tryz.prog 46 #[.pointer (some ⟨db, 0, none⟩), strL s, strL t] w fun e w' => e = .returned (.int .i64 (if c.x.S = d.x.S then 0 else 1)) ∧ DirW w' db mb (oneC L s (mgE d.x)) ∧ Fr [c.eb, c.mb] w w' := by
  have c0 := h.blk.cell 0
  have c0' := h.blk.drew.cell 0
  obtain ⟨es, clock, hm, hi⟩ := h.map
  have l1 := quiet_look hi hs hm
  have l2 := quiet_look hi ht hm
  obtain ⟨hc, rfl⟩ := findC_mem h1
  obtain ⟨hd, rfl⟩ := findC_mem h2
  rw [h1] at l1
  rw [h2] at l2
  unfold cpt Cel.ptr at l1 l2
  have hEc := h.ents c hc
  have hEd := h.ents d hd
  have ce := hEc.blk.cell
  have cd := hEd.blk.cell
  have ce' := hEc.blk.drew.drew.cell
  have cd' := hEd.blk.drew.drew.cell
  have hoc := h.own hc
  have hod := h.own hd
  obtain ⟨q, hq⟩ : ∃ q : Int, q = if c.x.S = d.x.S then 0 else 1 := ⟨_, rfl⟩
  rw [← hq]
  have Hq := hidIt hq
  clear hq
  go_enter Tryz.func46, Tryz.ntmps46
  go_wp2_with fail
  refine wp_region_still_tail 13 follows (by as_aux_lemma => kernel_rfl) ?_
  simp only [List.take_succ_cons, List.take_zero, List.drop_succ_cons, List.drop_zero]
  change wpStill _ _ (World.drew _) _ _ _
  iterate 13 still_step
  refine wpStill_nil ?_
  change wpList _ _ _ _ _ (World.drew _)
  have hde : d.eb ≠ c.mb := fun e => by
    have := h.foot hc hd (k := c.mb) (by simp [Cel.feet]) (by simp [Cel.feet, e])
    subst this
    omega
  have key := Merge_any c.tb c.mb c.x.S c.x.g c.x.l d.tb d.mb d.x.S d.x.g d.x.l w.drew.drew (hEc.bits.fr0 (Fr.refl [] w).drew.drew) (hEd.bits.fr0 (Fr.refl [] w).drew.drew)
  go_wp2_with fail
  refine wp_region_still_tail 8 follows (by as_aux_lemma => kernel_rfl) ?_
  simp only [List.take_succ_cons, List.take_zero, List.drop_succ_cons, List.drop_zero]
  change wpStill _ _ (World.drew (World.drew _)) _ _ _
  iterate 8 still_step
  refine wpStill_nil ?_
  change wpList _ _ _ _ _ (World.drew (World.drew _))
  go_wp2_with fail
  refine key.mono ?_
  rintro e w1 ⟨rfl, hB, hf⟩
  have hF1 : Fr [c.eb, c.mb] w w1 := ((Fr.refl [c.eb, c.mb] w).drew.drew).trans' (hf.mono (by simp))
  have B1 := hEc.blk.drew.drew.fr hf (by simp; omega)
  have D1 := hEd.blk.drew.drew.fr hf (by simp; omega)
  have hfeet : ∀ k ∈ [c.eb, c.mb], k < w.heap.size → k ∈ c.feet := fun k hk _ => by simp at hk; simp [Cel.feet]; omega
  clear key l1 l2 c0 c0' ce cd ce' cd' hm hi h1 h2
  have d1 := B1.cell
  have d2 := B1.frozen
  have d3 := B1.lt
  have d4 := D1.cell
  by_cases hS : c.x.S = d.x.S
  · have Hq0 : Hid (q = 0) := hidIt (by rw [Hq.out, if_pos hS])
    rw [if_pos hS]
    rw [if_pos hS] at hB
    clear Hq
    have hc1 : c.on (mgE d.x) = ⟨{ c.x with l := mrg c.x.S c.x.g c.x.l d.x.g d.x.l, use := c.x.use && d.x.use }, c.eb, c.tb, c.mb⟩ := by unfold Cel.on mgE; rw [if_pos hS.symm.symm]
    have Hc1 := hidIt hc1
    have hF2 := hF1.setCell (p := ⟨c.eb, 2, none⟩) (.inl (by simp)) (.bool (c.x.use && d.x.use))
    have B2 := B1.setCell 2 (.bool (c.x.use && d.x.use))
    have Hd := hidIt (h.one hc (mgE_name d.x) (hF2.mono hfeet) (by
      rw [hc1]
      exact ⟨B2, hB.fr ((Fr.refl [c.eb] w1).setCell (.inl (by simp)) _) (by simp; exact hoc.1.symm) (by simp; exact hoc.2.1.symm), hEc.pow⟩))
    replace hF2 := hidIt hF2
    clear hc1 hS B2 hB Hc1
    cases hu : c.x.use with
    | true =>
      rw [hu, Bool.true_and] at Hd hF2
      rw [hu] at d1
      go_wp2
      go_ret
      exact ⟨ret_int Hq0.out.symm, Hd.out, hF2.out⟩
    | false =>
      rw [hu, Bool.false_and] at Hd hF2
      rw [hu] at d1
      go_wp2
      go_ret
      exact ⟨ret_int Hq0.out.symm, Hd.out, hF2.out⟩
  · have Hq0 : Hid (q = 1) := hidIt (by rw [Hq.out, if_neg hS])
    rw [if_neg hS]
    rw [if_neg hS] at hB
    clear Hq
    have hc1 : c.on (mgE d.x) = c := by unfold Cel.on mgE; rw [if_neg hS]
    have Hd := hidIt (h.one hc (mgE_name d.x) (hF1.mono hfeet) (by rw [hc1]; exact ⟨B1, hB, hEc.pow⟩))
    clear hc1 hS hB
    go_wp2
    go_ret
    exact ⟨ret_int Hq0.out.symm, Hd.out, hF1⟩
end Go.Proofs.YtiifmakhfpllnaaGreat
