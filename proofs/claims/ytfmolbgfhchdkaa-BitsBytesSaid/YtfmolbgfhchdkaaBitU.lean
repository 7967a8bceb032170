/-
  The reference of layer 10: Set refused, Resize.
-/
import Derived.Test.YtfmolbgfhchdkaaBitS1
import Derived.Test.YtfmolbgfhchdkaaBitS2
namespace Go.Proofs.Ytfmolbgfhchdkaa
open Go.RowKit Go.Maps

set_option maxRecDepth 100000 in
set_option maxHeartbeats 800000 in
theorem rSet_no (S g : Nat) (v : Value) (l : List Bool) (f n : Int) (d : Bool) (w : World) (hv : SlB w v l) (hS : S ≤ 4096) (fw : -9223372036854775808 ≤ n ∧ n ≤ 9223372036854775807) (hin : ¬ insideB S f n) :
    Calls Try.prog 42 #[.agg #[.int .i64 S, .int .i64 g, v], .int .i64 f, .int .i64 n, .bool d] w
      fun e w' => e = .returned (.tuple #[rb S g v, .int .i64 1]) ∧ Fr [] w w' := by
  have hins : decide (insideB S f n) = false := by simpa using hin
  obtain ⟨av, cv, rfl, _, _, _⟩ := hv.open
  clear hin hv
  generalize l.length = m at *
  go_enter Try.func42, Try.ntmps42
  go_wp2_with fail
  refine (inside_calls S g _ f n _ hS fw).mono ?_
  rintro e w1 ⟨rfl, hf⟩
  rw [hins]
  have hF1 : Fr [] w w1 := (((Fr.refl _ w).alloc _).alloc _).trans0 hf
  have B4 : Blk w1 w.heap.size [.int .i64 S, .int .i64 g, .slice av m cv] 28 := ((Blk.new w [_, _, _] _).alloc _).fr0 hf
  have B8 : Blk w1 (w.heap.size + 1) [.int .i64 0, .int .i64 0, .slice none 0 0] 28 := (Blk.new' (by simp) [_, _, _] _).fr0 hf
  have hsz1 := hf.size
  simp only [World.size_alloc] at hsz1
  clear hf
  have b4 := B4.cell
  have b8 := B8.cell
  have f8 := B8.frozen
  go_wp2
  exact bodyPost_ret (v := .tuple #[rb S g (.slice av m cv), .int .i64 1]) (by simp [results, Try.results42, go_sem, rb, b8]) rfl ⟨rfl, ((hF1.setCell (.inr (by simp)) _).setCell (.inr (by simp)) _).setCell (.inr (by simp)) _⟩
set_option maxRecDepth 100000 in
set_option maxHeartbeats 800000 in
theorem rResize_no (S g : Nat) (v : Value) (l : List Bool) (s : Int) (w : World) (hv : SlB w v l) (hs : okSec s = false) :
    Calls Try.prog 43 #[.agg #[.int .i64 S, .int .i64 g, v], .int .i64 s] w
      fun e w' => e = .returned (.tuple #[rb S g v, .int .i64 1]) ∧ Fr [] w w' := by
  have hno : okNew s g = false := by simp [okNew, hs]
  obtain ⟨av, cv, rfl, _, _, _⟩ := hv.open
  clear hs hv
  generalize l.length = m at *
  go_enter Try.func43, Try.ntmps43
  go_wp2_with fail
  refine (rNew_no s g _ hno).mono ?_
  rintro e w1 ⟨rfl, hf⟩
  unfold z0
  have hF1 : Fr [] w w1 := (((Fr.refl _ w).alloc _).alloc _).trans0 hf
  have B4 : Blk w1 w.heap.size [.int .i64 S, .int .i64 g, .slice av m cv] 28 := ((Blk.new w [_, _, _] _).alloc _).fr0 hf
  have B8 : Blk w1 (w.heap.size + 1) [.int .i64 0, .int .i64 0, .slice none 0 0] 28 := (Blk.new' (by simp) [_, _, _] _).fr0 hf
  have hsz1 := hf.size
  simp only [World.size_alloc] at hsz1
  clear hf
  have b4 := B4.cell
  have l4 := B4.lt
  have b8 := B8.cell
  have f8 := B8.frozen
  have l8 := B8.lt
  go_wp2
  exact bodyPost_ret (v := .tuple #[rb S g (.slice av m cv), .int .i64 1]) (by simp [results, Try.results43, go_sem, rb, b8, l8]) rfl ⟨rfl, (((hF1.setCell (.inr (by simp)) _).setCell (.inr (by simp)) _).setCell (.inr (by simp)) _).alloc _⟩
theorem rzB_getD {S g : Nat} {l : List Bool} {n k : Nat} (hg : 0 < g) (hl : l.length = gran S g) (hk : k < gran n g) :
    (rzB S g l n).getD k false = if S < k * g + g ∧ S < n then true else (decide (l.length ≤ k) || l.getD k false) := by
  have hkn : k * g < n := (ceil_lt hg).1 hk
  have hlk : l.length ≤ k ↔ S ≤ k * g := by rw [hl]; exact ceil_le hg
  unfold rzB
  by_cases h : S < n
  · rw [if_pos h, bSet_getD (by rw [cutB_len]; exact hk), cutB_getD, if_pos hk]
    by_cases h2 : S < k * g + g
    · rw [if_pos ⟨h2, h⟩]
      have : oneB n g S (n - S) k = true := by simp only [oneB, decide_eq_true_eq]; omega
      rw [this]; rfl
    · rw [if_neg (fun h => h2 h.1)]
      have h3 : oneB n g S (n - S) k = false := by simp only [oneB, decide_eq_false_iff_not]; omega
      have h4 : decide (l.length ≤ k) = false := by simp only [decide_eq_false_iff_not]; omega
      rw [h3, h4]
  · rw [if_neg h, cutB_getD, if_pos hk, if_neg (fun h' => h h'.2)]
    have h4 : decide (l.length ≤ k) = false := by simp only [decide_eq_false_iff_not]; omega
    rw [h4]; rfl
theorem rzB_len {S g : Nat} {l : List Bool} {n : Nat} : (rzB S g l n).length = gran n g := by
  unfold rzB
  split
  · simp [bSet, cutB_len]
  · exact cutB_len _ _
set_option maxRecDepth 100000 in
set_option maxHeartbeats 4000000 in
theorem rResize_yes (S g : Nat) (v : Value) (l : List Bool) (n : Nat) (w : World) (hv : SlB w v l) (hp : pow2 g = true) (hS : S ≤ 4096) (hn : n ≤ 4096) (hlen : l.length = gran S g) :
    Calls Try.prog 43 #[.agg #[.int .i64 S, .int .i64 g, v], .int .i64 (n : Int)] w
      fun e w' => ∃ v', e = .returned (.tuple #[rb n g v', .int .i64 0]) ∧ SlB w' v' (rzB S g l n) ∧ okV v' ∧ Fr [] w w' := by
  have hg := pow2_le hp
  have hg0 : 0 < g := by omega
  have hle := gran_le hn hg0
  have hle1 := gran_le hS hg0
  obtain ⟨av, cv, rfl, _, _, _⟩ := hv.open
  have hle2 : l.length ≤ 4096 := by omega
  have HR : Hid ((rzB S g l n).length = (List.replicate (gran n g) false).length) := hidIt (by rw [rzB_len]; simp)
  replace hlen := hidIt hlen
  go_enter Try.func43, Try.ntmps43
  go_wp2_with fail
  refine (rNew_yes n g _ hn hp).mono ?_
  rintro e w1 ⟨v1, rfl, hown, hf⟩
  obtain ⟨a1, c1, rfl, _, _, _⟩ := Sl.of_owns hown
  unfold rb
  simp only [World.size_alloc] at hown
  have hF1 : Fr [] w w1 := (((Fr.refl _ w).alloc _).alloc _).trans0 hf
  have B2 : Blk w1 w.heap.size [.int .i64 S, .int .i64 g, .slice av l.length cv] 28 := ((Blk.new w [_, _, _] _).alloc _).fr0 hf
  have B4 : Blk w1 (w.heap.size + 1) [.int .i64 0, .int .i64 0, .slice none 0 0] 28 := (Blk.new' (by simp) [_, _, _] _).fr0 hf
  have hsz1 := hf.size
  simp only [World.size_alloc] at hsz1
  have hv1 := hv.fr0 hF1
  have B6 := Blk.new w1 [.int .i64 n, .int .i64 g, .slice a1 (gran n g) c1] 28
  have hF2 := hF1.alloc (.cells #[.int .i64 n, .int .i64 g, .slice a1 (gran n g) c1] 28)
  replace hown := hown.alloc (.cells #[.int .i64 n, .int .i64 g, .slice a1 (gran n g) c1] 28)
  replace B2 := B2.alloc (.cells #[.int .i64 n, .int .i64 g, .slice a1 (gran n g) c1] 28)
  replace B4 := B4.alloc (.cells #[.int .i64 n, .int .i64 g, .slice a1 (gran n g) c1] 28)
  clear hf hF1
  go_wp2_with fail
  go_loopw [8, 9] (fun i _ wr => ∃ k : Nat, k ≤ gran n g ∧ i = .int .i64 k ∧ wr.ownsRow (w.heap.size + 2) 4 1 (.slice a1 (gran n g) c1) (gran n g) ((mixB (rzB S g l n) (List.replicate (gran n g) false) k).flatMap boolC) ∧
    Blk wr w.heap.size [.int .i64 S, .int .i64 g, .slice av l.length cv] 28 ∧ Blk wr (w.heap.size + 1) [.int .i64 0, .int .i64 0, .slice none 0 0] 28 ∧
    Blk wr w1.heap.size [.int .i64 n, .int .i64 g, .slice a1 (gran n g) c1] 28 ∧ Fr [] w wr) (fun i _ _ => gran n g - (intOf i).toNat)
  case atStart => exact ⟨0, Nat.zero_le _, rfl, by rw [mixB_start]; exact hown, B2, B4, B6, hF2⟩
  case round =>
    clear hF2 B2 B4 B6 hown
    obtain ⟨k, hk, rfl, hown, B2, B4, B6, hF⟩ := hrel
    have b2 := B2.cell
    have b4 := B4.cell
    have f4 := B4.frozen
    have b6 := B6.cell
    have l2 := B2.lt
    have l4 := B4.lt
    have l6 := B6.lt
    by_cases hlt : k < gran n g
    · have hkm : k * g < n := (ceil_lt hg0).1 hlt
      have Hst := hidIt (mixB_step (rzB S g l n) (List.replicate (gran n g) false) k (by simp; exact hlt))
      have HgR := hidIt (rzB_getD (S := S) (l := l) hg0 hlen.out hlt)
      obtain ⟨gb, cap, hva, hgb, _⟩ := owns_succ hown (by omega)
      cases hva
      have hml : (mixB (rzB S g l n) (List.replicate (gran n g) false) k).length = gran n g := by rw [mixB_len]; simp
      obtain ⟨hcell, hfz⟩ := owns_at hown (j := k) (u := .bool ((mixB (rzB S g l n) (List.replicate (gran n g) false) k).getD k false)) (by rw [flatB_at, getD_some false (by omega)]; rfl)
      have hneb : ¬ w.heap.size = gb := by omega
      have hneb1 : ¬ w.heap.size + 1 = gb := by omega
      have hmul : (k : Int) * (g : Int) = ((k * g : Nat) : Int) := by simp
      generalize k * g = m at *
      have hne6 : ¬ w1.heap.size = gb := by
        rintro rfl
        have h1 := (hown.lt w1.heap.size rfl)
        rcases hown.2 with ⟨h2, _⟩ | ⟨g', cap', cur, h2, _, h3, _⟩
        · cases h2
        · cases h2
          have := h3.symm.trans B6
          cases this
      generalize mixB (rzB S g l n) (List.replicate (gran n g) false) k = M at *
      generalize gran n g = G at *
      by_cases h1 : k < l.length
      · obtain ⟨b, off, hab, hb, c0⟩ := SlB.at (hv.fr0 hF) h1
        cases hab
        generalize l.getD k false = q at *
        by_cases h2 : S < m + g
        · by_cases h3 : S < n
          · rw [if_pos ⟨h2, h3⟩] at HgR
            rw [HgR.out] at Hst
            clear HgR hlen HR
            go_wp2_with fail
            refine wp_region_still_tail 16 follows (by as_aux_lemma => kernel_rfl) ?_
            simp only [List.take_succ_cons, List.take_zero, List.drop_succ_cons, List.drop_zero]
            change wpStill _ _ (World.drew _) _ _ _
            iterate 16 still_step
            refine wpStill_nil ?_
            change wpList _ _ _ _ _ (World.drew _)
            go_wp2
            exact ⟨⟨k + 1, by omega, by go_num, by rw [Hst.out, flatB_set, ← List.set_set (a := Value.bool (decide (l.length ≤ k) || q))]; exact owns_drew (owns_put (owns_put hown k (.bool (decide (l.length ≤ k) || q))) k (.bool true)), ((B2.other hneb _).other hneb _).drew, ((B4.other hneb1 _).other hneb1 _).drew, ((B6.other hne6 _).other hne6 _).drew, ((hF.setCell (.inr (by show w.heap.size ≤ gb; omega)) _).setCell (.inr (by show w.heap.size ≤ gb; omega)) _).drew⟩, by simp [intOf]; omega⟩
          · rw [if_neg (fun h => h3 h.2)] at HgR
            rw [HgR.out] at Hst
            clear HgR hlen HR
            go_wp2_with fail
            refine wp_region_still_tail 16 follows (by as_aux_lemma => kernel_rfl) ?_
            simp only [List.take_succ_cons, List.take_zero, List.drop_succ_cons, List.drop_zero]
            change wpStill _ _ (World.drew _) _ _ _
            iterate 16 still_step
            refine wpStill_nil ?_
            change wpList _ _ _ _ _ (World.drew _)
            go_wp2
            exact ⟨⟨k + 1, by omega, by go_num, by rw [Hst.out, flatB_set]; exact owns_drew (owns_put hown k _), (B2.other hneb _).drew, (B4.other hneb1 _).drew, (B6.other hne6 _).drew, (hF.setCell (.inr (by show w.heap.size ≤ gb; omega)) _).drew⟩, by simp [intOf]; omega⟩
        · rw [if_neg (fun h => h2 h.1)] at HgR
          rw [HgR.out] at Hst
          clear HgR hlen HR
          go_wp2_with fail
          refine wp_region_still_tail 16 follows (by as_aux_lemma => kernel_rfl) ?_
          simp only [List.take_succ_cons, List.take_zero, List.drop_succ_cons, List.drop_zero]
          change wpStill _ _ (World.drew _) _ _ _
          iterate 16 still_step
          refine wpStill_nil ?_
          change wpList _ _ _ _ _ (World.drew _)
          go_wp2
          exact ⟨⟨k + 1, by omega, by go_num, by rw [Hst.out, flatB_set]; exact owns_drew (owns_put hown k _), (B2.other hneb _).drew, (B4.other hneb1 _).drew, (B6.other hne6 _).drew, (hF.setCell (.inr (by show w.heap.size ≤ gb; omega)) _).drew⟩, by simp [intOf]; omega⟩
      · have hdk : decide (l.length ≤ k) = true := by simp; omega
        rw [hdk, Bool.true_or] at HgR
        clear hdk
        by_cases h2 : S < m + g
        · by_cases h3 : S < n
          · rw [if_pos ⟨h2, h3⟩] at HgR
            rw [HgR.out] at Hst
            clear HgR hlen HR
            go_wp2_with fail
            refine wp_region_still_tail 16 follows (by as_aux_lemma => kernel_rfl) ?_
            simp only [List.take_succ_cons, List.take_zero, List.drop_succ_cons, List.drop_zero]
            change wpStill _ _ (World.drew _) _ _ _
            iterate 16 still_step
            refine wpStill_nil ?_
            change wpList _ _ _ _ _ (World.drew _)
            go_wp2
            exact ⟨⟨k + 1, by omega, by go_num, by rw [Hst.out, flatB_set, ← List.set_set (a := Value.bool (true))]; exact owns_drew (owns_put (owns_put hown k (.bool (true))) k (.bool true)), ((B2.other hneb _).other hneb _).drew, ((B4.other hneb1 _).other hneb1 _).drew, ((B6.other hne6 _).other hne6 _).drew, ((hF.setCell (.inr (by show w.heap.size ≤ gb; omega)) _).setCell (.inr (by show w.heap.size ≤ gb; omega)) _).drew⟩, by simp [intOf]; omega⟩
          · rw [if_neg (fun h => h3 h.2)] at HgR
            rw [HgR.out] at Hst
            clear HgR hlen HR
            go_wp2_with fail
            refine wp_region_still_tail 16 follows (by as_aux_lemma => kernel_rfl) ?_
            simp only [List.take_succ_cons, List.take_zero, List.drop_succ_cons, List.drop_zero]
            change wpStill _ _ (World.drew _) _ _ _
            iterate 16 still_step
            refine wpStill_nil ?_
            change wpList _ _ _ _ _ (World.drew _)
            go_wp2
            exact ⟨⟨k + 1, by omega, by go_num, by rw [Hst.out, flatB_set]; exact owns_drew (owns_put hown k _), (B2.other hneb _).drew, (B4.other hneb1 _).drew, (B6.other hne6 _).drew, (hF.setCell (.inr (by show w.heap.size ≤ gb; omega)) _).drew⟩, by simp [intOf]; omega⟩
        · rw [if_neg (fun h => h2 h.1)] at HgR
          rw [HgR.out] at Hst
          clear HgR hlen HR
          go_wp2_with fail
          refine wp_region_still_tail 16 follows (by as_aux_lemma => kernel_rfl) ?_
          simp only [List.take_succ_cons, List.take_zero, List.drop_succ_cons, List.drop_zero]
          change wpStill _ _ (World.drew _) _ _ _
          iterate 16 still_step
          refine wpStill_nil ?_
          change wpList _ _ _ _ _ (World.drew _)
          go_wp2
          exact ⟨⟨k + 1, by omega, by go_num, by rw [Hst.out, flatB_set]; exact owns_drew (owns_put hown k _), (B2.other hneb _).drew, (B4.other hneb1 _).drew, (B6.other hne6 _).drew, (hF.setCell (.inr (by show w.heap.size ≤ gb; omega)) _).drew⟩, by simp [intOf]; omega⟩
    · have hke : k = gran n g := by omega
      have hend := mixB_end HR.out
      rw [List.length_replicate] at hend
      rw [hke, hend] at hown
      clear hke hend
      go_wp2
      have hsl := fun (W : World) (h : W.ownsRow (w.heap.size + 2) 4 1 (.slice a1 (gran n g) c1) (gran n g) ((rzB S g l n).flatMap boolC)) => (show SlB W (.slice a1 (gran n g) c1) (rzB S g l n) from SlF.of_owns (base := w.heap.size + 2) (e := 4) (size := 1) (by rw [rzB_len]; exact h))
      exact bodyPost_ret (v := .tuple #[rb n g (.slice a1 (gran n g) c1), .int .i64 0]) (by simp [results, Try.results43, go_sem, rb, b4]) rfl ⟨_, rfl, hsl _ (owns_setCell (owns_setCell (owns_setCell hown (by simp) _) (by simp) _) (by simp) _), okV.of_owns hown,
        ((hF.setCell (.inr (by simp)) _).setCell (.inr (by simp)) _).setCell (.inr (by simp)) _⟩
end Go.Proofs.Ytfmolbgfhchdkaa
