/-
  Package bits: Clear.
-/
import Derived.Test.YtfmolbgfhchdkaaBitD
namespace Go.Proofs.Ytfmolbgfhchdkaa
open Go.RowKit Go.Maps
attribute [local go_sem] mapAt_alloc mapAt_setCell mapAt_drew mapAt_drewN

theorem nat_beq {f n S : Nat} (hq : ((f : Int) + n == (S : Int)) = true) : f + n = S := by
  have := eq_of_beq hq
  omega
theorem nat_bne {f n S : Nat} (hq : ((f : Int) + n == (S : Int)) = false) : ¬ f + n = S := by
  have := ne_of_beq_false hq
  omega
set_option maxRecDepth 100000 in
set_option maxHeartbeats 1600000 in
theorem Clear_yes (tb mb S g : Nat) (l : List Bool) (f n : Nat) (w : World) (h : BitW w tb mb S g l) (hin : f + n ≤ S) :
    Calls Try.prog 15 #[.pointer (some ⟨tb, 0, none⟩), .int .i64 (f : Int), .int .i64 (n : Int)] w
      fun r w' => r = .returned (.int .i64 0) ∧ BitW w' tb mb S g (bClear S g l f n) ∧ Fr [mb] w w' := by
  have ct := h.blk.cell
  have hS := h.size
  have hg := h.grain
  have hle := gran_le h.size hg.1
  have hlen := h.len
  have hins : insideB S f n := ⟨by omega, by omega, by omega, by omega⟩
  have hg0 : (0 : Int) < g := by omega
  have hgn : ¬ (g : Int) = 0 := by omega
  have hgz : ¬ g = 0 := by omega
  have hq1 : Int.tdiv ((f : Int) + g - 1) g = (((f + g - 1) / g : Nat) : Int) := by
    have e : (f : Int) + g - 1 = ((f + g - 1 : Nat) : Int) := by omega
    rw [e, Int.ofNat_tdiv]
  have hq2 : Int.tdiv ((f : Int) + n) g = (((f + n) / g : Nat) : Int) := by
    have e : (f : Int) + n = ((f + n : Nat) : Int) := by omega
    rw [e, Int.ofNat_tdiv]
  have Hfill := hidIt (fill_clear (f := f) (n := n) hg.1 hlen hin)
  have hd1 := Nat.div_le_self (f + g - 1) g
  have hd2 := Nat.div_le_self (f + n) g
  have hend : (f + n) / g ≤ l.length := by
    rw [hlen]
    exact Nat.div_le_div_right (by omega)
  generalize (f + n) / g = E at *
  generalize (f + g - 1) / g = A at *
  have hw1 : IntKind.i64.wrap ((f : Int) + g) = (f : Int) + g := IntWalk.i64_in _ (by omega)
  have hw2 : IntKind.i64.wrap ((f : Int) + g - 1) = (f : Int) + g - 1 := IntWalk.i64_in _ (by omega)
  have hwE : IntKind.i64.wrap (E : Int) = (E : Int) := IntWalk.i64_in _ (by omega)
  have hwA : IntKind.i64.wrap (A : Int) = (A : Int) := IntWalk.i64_in _ (by omega)
  have B3 := (Blk.new w [.pointer (some ⟨tb, 0, none⟩)] 25)
  have c3 := B3.cell
  have hlt := h.lt.1
  go_enter Try.func15, Try.ntmps15
  go_wp2_with fail
  · have h0 : f + n = S := nat_beq (by assumption)
    refine (granules_calls tb mb S g l _ (h.fr0 ((Fr.refl _ _).alloc _))).mono ?_
    rintro r w1 ⟨rfl, hf1⟩
    replace B3 := B3.fr0 hf1
    have c3 := B3.cell
    replace h := h.fr0 (((Fr.refl _ _).alloc _).trans0 hf1)
    have hF1 := ((Fr.refl [mb] w).alloc (.cells #[.pointer (some ⟨tb, 0, none⟩)] 25)).trans0 hf1
    have ct := h.blk.cell
    go_wp2_with fail
    refine wp_region_still_tail 17 follows (by as_aux_lemma => kernel_rfl) ?_
    simp only [List.take_succ_cons, List.take_zero, List.drop_succ_cons, List.drop_zero]
    change wpStill _ _ (World.drew _) _ _ _
    iterate 17 still_step
    refine wpStill_nil ?_
    change wpList _ _ _ _ _ (World.drew _)
    go_wp2_with fail
    refine (each_clear tb mb S g w.heap.size l f n A (gran S g : Nat) _ (h.fr0 ((Fr.refl _ _).drew)) (B3.drew) hins (by omega) (by omega)).mono ?_
    rintro r w2 ⟨rfl, hB, hf⟩
    go_wp2
    go_ret
    exact ⟨rfl, by rw [← Hfill.out, if_pos h0]; simpa using hB, hF1.drew.trans' hf⟩
  · have h0 : ¬ f + n = S := nat_bne (by assumption)
    refine wp_region_still_tail 17 follows (by as_aux_lemma => kernel_rfl) ?_
    simp only [List.take_succ_cons, List.take_zero, List.drop_succ_cons, List.drop_zero]
    change wpStill _ _ (World.drew _) _ _ _
    iterate 17 still_step
    refine wpStill_nil ?_
    change wpList _ _ _ _ _ (World.drew _)
    go_wp2_with fail
    refine (each_clear tb mb S g w.heap.size l f n A E _ (h.fr0 (((Fr.refl _ _).alloc _).drew)) (B3.drew) hins (by omega) (by omega)).mono ?_
    rintro r w2 ⟨rfl, hB, hf⟩
    go_wp2
    go_ret
    exact ⟨rfl, by rw [← Hfill.out]; simpa [h0] using hB, (((Fr.refl [mb] w).alloc _).drew).trans' hf⟩
end Go.Proofs.Ytfmolbgfhchdkaa
