/-
  Package bits: Set and Clear of sectors that are not all the disk's.
-/
import Derived.Test.YtfmolbgfhchdkaaBitE
namespace Go.Proofs.Ytfmolbgfhchdkaa
open Go.RowKit Go.Maps
attribute [local go_sem] mapAt_alloc mapAt_setCell mapAt_drew mapAt_drewN

set_option maxRecDepth 100000 in
set_option maxHeartbeats 1600000 in
theorem Set_no (tb mb S g : Nat) (l : List Bool) (f n : Int) (w : World) (h : BitW w tb mb S g l) (fw : -9223372036854775808 ≤ n ∧ n ≤ 9223372036854775807) (hin : ¬ insideB S f n) :
    Calls Try.prog 17 #[.pointer (some ⟨tb, 0, none⟩), .int .i64 f, .int .i64 n] w
      fun r w' => r = .returned (.int .i64 1) ∧ Fr [] w w' := by
  have ct := h.blk.cell
  have hg := h.grain
  have hg0 : (0 : Int) < g := by omega
  have hgn : ¬ (g : Int) = 0 := by omega
  have hgz : ¬ g = 0 := by omega
  have B3 := (Blk.new w [.pointer (some ⟨tb, 0, none⟩)] 25)
  have c3 := B3.cell
  have hlt := h.lt.1
  by_cases h0 : n = 0
  · subst h0
    go_enter Try.func17, Try.ntmps17
    go_wp2_with fail
    go_quiet (fail)
    go_wp2_with fail
    refine wp_region_still_tail 11 follows (by as_aux_lemma => kernel_rfl) ?_
    simp only [List.take_succ_cons, List.take_zero, List.drop_succ_cons, List.drop_zero]
    change wpStill _ _ (World.drew _) _ _ _
    iterate 11 still_step
    refine wpStill_nil ?_
    change wpList _ _ _ _ _ (World.drew _)
    go_wp2_with fail
    refine (each_no tb mb S g l f 0 _ _ _ _ (h.fr0 (((Fr.refl _ _).alloc _).drewN _)) fw hin).mono ?_
    rintro r w2 ⟨rfl, rfl⟩
    go_wp2
    go_ret
    exact ⟨rfl, (((Fr.refl [] w).alloc _).drewN _)⟩
  · go_enter Try.func17, Try.ntmps17
    go_wp2_with fail
    go_quiet (fail)
    go_wp2_with fail
    refine wp_region_still_tail 11 follows (by as_aux_lemma => kernel_rfl) ?_
    simp only [List.take_succ_cons, List.take_zero, List.drop_succ_cons, List.drop_zero]
    change wpStill _ _ (World.drew _) _ _ _
    iterate 11 still_step
    refine wpStill_nil ?_
    change wpList _ _ _ _ _ (World.drew _)
    go_wp2_with fail
    refine (each_no tb mb S g l f n _ _ _ _ (h.fr0 (((Fr.refl _ _).alloc _).drewN _)) fw hin).mono ?_
    rintro r w2 ⟨rfl, rfl⟩
    go_wp2
    go_ret
    exact ⟨rfl, (((Fr.refl [] w).alloc _).drewN _)⟩
set_option maxRecDepth 100000 in
set_option maxHeartbeats 1600000 in
theorem Clear_no (tb mb S g : Nat) (l : List Bool) (f n : Int) (w : World) (h : BitW w tb mb S g l) (fw : -9223372036854775808 ≤ n ∧ n ≤ 9223372036854775807) (hin : ¬ insideB S f n) :
    Calls Try.prog 15 #[.pointer (some ⟨tb, 0, none⟩), .int .i64 f, .int .i64 n] w
      fun r w' => r = .returned (.int .i64 1) ∧ Fr [] w w' := by
  have ct := h.blk.cell
  have hg := h.grain
  have hg0 : (0 : Int) < g := by omega
  have hgn : ¬ (g : Int) = 0 := by omega
  have hgz : ¬ g = 0 := by omega
  have B3 := (Blk.new w [.pointer (some ⟨tb, 0, none⟩)] 25)
  have c3 := B3.cell
  have hlt := h.lt.1
  go_enter Try.func15, Try.ntmps15
  go_wp2_with fail
  · refine (granules_calls tb mb S g l _ (h.fr0 ((Fr.refl _ _).alloc _))).mono ?_
    rintro r w1 ⟨rfl, hf1⟩
    replace B3 := B3.fr0 hf1
    have c3 := B3.cell
    replace h := h.fr0 (((Fr.refl _ _).alloc _).trans0 hf1)
    have hF1 := ((Fr.refl [] w).alloc (.cells #[.pointer (some ⟨tb, 0, none⟩)] 25)).trans0 hf1
    have ct := h.blk.cell
    go_wp2_with fail
    refine wp_region_still_tail 17 follows (by as_aux_lemma => kernel_rfl) ?_
    simp only [List.take_succ_cons, List.take_zero, List.drop_succ_cons, List.drop_zero]
    change wpStill _ _ (World.drew _) _ _ _
    iterate 17 still_step
    refine wpStill_nil ?_
    change wpList _ _ _ _ _ (World.drew _)
    go_wp2_with fail
    refine (each_no tb mb S g l f n _ _ _ _ (h.fr0 ((Fr.refl _ _).drew)) fw hin).mono ?_
    rintro r w2 ⟨rfl, rfl⟩
    go_wp2
    go_ret
    exact ⟨rfl, hF1.drew⟩
  · skip
    refine wp_region_still_tail 17 follows (by as_aux_lemma => kernel_rfl) ?_
    simp only [List.take_succ_cons, List.take_zero, List.drop_succ_cons, List.drop_zero]
    change wpStill _ _ (World.drew _) _ _ _
    iterate 17 still_step
    refine wpStill_nil ?_
    change wpList _ _ _ _ _ (World.drew _)
    go_wp2_with fail
    refine (each_no tb mb S g l f n _ _ _ _ (h.fr0 (((Fr.refl _ _).alloc _).drew)) fw hin).mono ?_
    rintro r w2 ⟨rfl, rfl⟩
    go_wp2
    go_ret
    exact ⟨rfl, (((Fr.refl [] w).alloc _).drew)⟩
end Go.Proofs.Ytfmolbgfhchdkaa
