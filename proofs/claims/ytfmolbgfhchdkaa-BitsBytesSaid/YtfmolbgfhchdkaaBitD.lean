/-
  Package bits: Set, Clear.
-/
import Derived.Test.YtfmolbgfhchdkaaBitC
namespace Go.Proofs.Ytfmolbgfhchdkaa
open Go.RowKit Go.Maps
attribute [local go_sem] mapAt_alloc mapAt_setCell mapAt_drew mapAt_drewN

theorem getD_range (l : List Bool) (p : Nat → Bool) {i : Nat} (hi : i < l.length) : ((List.range l.length).map p).getD i false = p i := by
  rw [List.getD_eq_getElem?_getD, List.getElem?_map, List.getElem?_range hi]; rfl
theorem fill_set {S g : Nat} {l : List Bool} {f n : Nat} (hg : 0 < g) (hl : l.length = gran S g) (hin : f + n ≤ S) : fillB true l (f / g) (if n = 0 then 0 else (f + n + g - 1) / g) = bSet S g l f n := extB (by simp [fillB_len, bSet]) fun i hi => by
  rw [fillB_len] at hi
  have hk : i * g < S := by rw [hl] at hi; exact (ceil_lt hg).1 hi
  have h1 := one_iff (k := i) (f := f) (n := n) hg hk hin
  rw [fillB_getD _ _ _ _ _ hi]
  unfold bSet
  rw [getD_range _ _ hi]
  by_cases h0 : n = 0
  · rw [if_pos h0, if_neg (by omega)]
    have : oneB S g f n i = false := by
      cases hb : oneB S g f n i with
      | false => rfl
      | true => exact absurd h0 (h1.1 hb).1
    rw [this]; rfl
  · rw [if_neg h0]
    by_cases hc : f / g ≤ i ∧ i < (f + n + g - 1) / g
    · rw [if_pos hc, h1.2 ⟨h0, hc⟩]; rfl
    · rw [if_neg hc]
      have : oneB S g f n i = false := by
        cases hb : oneB S g f n i with
        | false => rfl
        | true => exact absurd (h1.1 hb).2 hc
      rw [this]; rfl
theorem fill_clear {S g : Nat} {l : List Bool} {f n : Nat} (hg : 0 < g) (hl : l.length = gran S g) (hin : f + n ≤ S) : fillB false l ((f + g - 1) / g) (if f + n = S then gran S g else (f + n) / g) = bClear S g l f n := extB (by simp [fillB_len, bClear]) fun i hi => by
  rw [fillB_len] at hi
  have hk : i * g < S := by rw [hl] at hi; exact (ceil_lt hg).1 hi
  have h1 := all_iff (k := i) (f := f) (n := n) hg hk hin
  rw [fillB_getD _ _ _ _ _ hi]
  unfold bClear
  rw [getD_range _ _ hi]
  by_cases hc : (f + g - 1) / g ≤ i ∧ i < (if f + n = S then gran S g else (f + n) / g)
  · rw [if_pos hc, h1.2 hc]; rfl
  · rw [if_neg hc]
    have : allB S g f n i = false := by
      cases hb : allB S g f n i with
      | false => rfl
      | true => exact absurd (h1.1 hb) hc
    rw [this]; rfl
set_option maxRecDepth 100000 in
set_option maxHeartbeats 1600000 in
theorem Set_yes (tb mb S g : Nat) (l : List Bool) (f n : Nat) (w : World) (h : BitW w tb mb S g l) (hin : f + n ≤ S) :
    Calls Try.prog 17 #[.pointer (some ⟨tb, 0, none⟩), .int .i64 (f : Int), .int .i64 (n : Int)] w
      fun r w' => r = .returned (.int .i64 0) ∧ BitW w' tb mb S g (bSet S g l f n) ∧ Fr [mb] w w' := by
  have ct := h.blk.cell
  have hS := h.size
  have hg := h.grain
  have hle := gran_le h.size hg.1
  have hlen := h.len
  have hins : insideB S f n := ⟨by omega, by omega, by omega, by omega⟩
  have hg0 : (0 : Int) < g := by omega
  have hgn : ¬ (g : Int) = 0 := by omega
  have hgz : ¬ g = 0 := by omega
  have hq1 : Int.tdiv ((f : Int) + n + g - 1) g = (((f + n + g - 1) / g : Nat) : Int) := by
    have e : (f : Int) + n + g - 1 = ((f + n + g - 1 : Nat) : Int) := by omega
    rw [e, Int.ofNat_tdiv]
  have hq2 : Int.tdiv (f : Int) g = ((f / g : Nat) : Int) := Int.ofNat_tdiv f g
  have Hfill := hidIt (fill_set (f := f) (n := n) hg.1 hlen hin)
  have hd1 := Nat.div_le_self (f + n + g - 1) g
  have hd2 := Nat.div_le_self f g
  have hend : n ≠ 0 → (f + n + g - 1) / g ≤ l.length := fun h0 => by
    rw [hlen]
    exact Nat.div_le_div_right (by omega)
  generalize (f + n + g - 1) / g = E at *
  generalize f / g = A at *
  have hwE : IntKind.i64.wrap (E : Int) = (E : Int) := IntWalk.i64_in _ (by omega)
  have hwA : IntKind.i64.wrap (A : Int) = (A : Int) := IntWalk.i64_in _ (by omega)
  have B3 := (Blk.new w [.pointer (some ⟨tb, 0, none⟩)] 25)
  have c3 := B3.cell
  have hlt := h.lt.1
  go_enter Try.func17, Try.ntmps17
  go_wp2_with fail
  go_quiet (fail)
  by_cases h0 : n = 0
  · subst h0
    go_wp2_with fail
    refine wp_region_still_tail 11 follows (by as_aux_lemma => kernel_rfl) ?_
    simp only [List.take_succ_cons, List.take_zero, List.drop_succ_cons, List.drop_zero]
    change wpStill _ _ (World.drew _) _ _ _
    iterate 11 still_step
    refine wpStill_nil ?_
    change wpList _ _ _ _ _ (World.drew _)
    go_wp2_with fail
    refine (each_set tb mb S g w.heap.size l f 0 A 0 _ (h.fr0 (((Fr.refl _ _).alloc _).drewN _)) (B3.drewN _) (by simpa using hins) (by omega) (by simp)).mono ?_
    rintro r w2 ⟨rfl, hB, hf⟩
    go_wp2
    go_ret
    exact ⟨rfl, by rw [← Hfill.out]; simpa using hB, (((Fr.refl [mb] w).alloc _).drewN _).trans' hf⟩
  · have h0' : ¬ (n : Int) = 0 := by omega
    go_wp2_with fail
    refine wp_region_still_tail 11 follows (by as_aux_lemma => kernel_rfl) ?_
    simp only [List.take_succ_cons, List.take_zero, List.drop_succ_cons, List.drop_zero]
    change wpStill _ _ (World.drew _) _ _ _
    iterate 11 still_step
    refine wpStill_nil ?_
    change wpList _ _ _ _ _ (World.drew _)
    go_wp2_with fail
    refine (each_set tb mb S g w.heap.size l f n A E _ (h.fr0 (((Fr.refl _ _).alloc _).drewN _)) (B3.drewN _) hins (by omega) (by have := hend h0; omega)).mono ?_
    rintro r w2 ⟨rfl, hB, hf⟩
    go_wp2
    go_ret
    exact ⟨rfl, by rw [← Hfill.out]; simpa [h0] using hB, (((Fr.refl [mb] w).alloc _).drewN _).trans' hf⟩
end Go.Proofs.Ytfmolbgfhchdkaa
