/-
  The reference of layer 10: Set, of what is made clean.
-/
import Derived.Test.YtiifmakhfpllnaaM08
namespace Go.Proofs.Ytiifmakhfpllnaa
open Go.RowKit Go.Maps

set_option maxRecDepth 100000 in
set_option maxHeartbeats 4000000 in
theorem rSet_false (S g : Nat) (v : Value) (l : List Bool) (f n : Nat) (w : World) (hv : SlB w v l) (hok : okV v) (hS : S ≤ 4096) (hg : 0 < g ∧ g ≤ 64) (hlen : l.length = gran S g) (hin : f + n ≤ S) :
    Calls Try.prog 41 #[.agg #[.int .i64 S, .int .i64 g, v], .int .i64 (f : Int), .int .i64 (n : Int), .bool false] w
      fun e w' => ∃ v', e = .returned (.tuple #[rb S g v', .int .i64 0]) ∧ SlB w' v' (bClear S g l f n) ∧ okV v' ∧ Fr [] w w' := by
  have hle := gran_le hS hg.1
  have hins : decide (insideB S (f : Int) (n : Int)) = true := by simp [insideB]; omega
  have HR : Hid ((bClear S g l f n).length = l.length) := hidIt (by simp [bClear])
  obtain ⟨av, cv, rfl, _, _, _⟩ := hv.open
  have hle2 : l.length ≤ 4096 := by omega
  replace hlen := hidIt hlen
  go_enter Try.func41, Try.ntmps41
  go_wp2_with fail
  refine (inside_calls S g _ f n _ hS (by omega)).mono ?_
  rintro e w1 ⟨rfl, hf⟩
  rw [hins]
  have hF1 : Fr [] w w1 := (((Fr.refl _ w).alloc _).alloc _).trans0 hf
  have B4 : Blk w1 w.heap.size [.int .i64 S, .int .i64 g, .slice av l.length cv] 78 := ((Blk.new w [_, _, _] _).alloc _).fr0 hf
  have B8 : Blk w1 (w.heap.size + 1) [.int .i64 0, .int .i64 0, .slice none 0 0] 78 := (Blk.new' (by simp) [_, _, _] _).fr0 hf
  have hsz1 := hf.size
  simp only [World.size_alloc] at hsz1
  have hv1 := hv.fr0 hF1
  clear hf hv
  have b4 := B4.cell
  have l4 := B4.lt
  go_wp2_with (at_builtin; refine Hid.out ?_)
  refine hidIt ?_
  refine wpList_append_sl 76 4 (.bool false) 1 1 Try.underlying76 infoBool rfl (by decide) (by decide) rfl _ _ rfl w1.heap.size _ 0 _ rfl (World.ownsRow_made w1 _ 0 (Nat.le_refl _) (by decide) rfl) _ l.length (l.flatMap boolC) (Sl.fr0 hv1 ((Fr.refl _ _).alloc _)) hok (by rw [flatB_length, Nat.mul_one]) (flat_one (fun _ => bool_one) l) rfl (by omega) (by omega) (by simp) ?_
  intro v2 w2 hown2 hgrow
  rw [Nat.zero_add, List.nil_append] at hown2
  have hf2 : Fr [] w1 w2 := ((Fr.refl [] w1).alloc _).grown hgrow (fun x hx => .inr (by cases hx; exact Nat.le_refl _))
  replace hF := hF1.trans0 hf2
  have B42 := B4.fr0 hf2
  have B82 := B8.fr0 hf2
  clear B4 B8 b4 hf2 hgrow hF1 hok hv1
  obtain ⟨a2, c2, rfl, _, _, _⟩ := Sl.of_owns hown2
  go_wp2_with fail
  go_loopw [11] (fun i wr => ∃ k : Nat, k ≤ l.length ∧ i = .int .i64 k ∧ wr.ownsRow w1.heap.size 4 1 (.slice a2 l.length c2) l.length ((mixB (bClear S g l f n) l k).flatMap boolC) ∧
    Blk wr w.heap.size [.int .i64 S, .int .i64 g, .slice av l.length cv] 78 ∧ Blk wr (w.heap.size + 1) [.int .i64 0, .int .i64 0, .slice none 0 0] 78 ∧ Fr [] w wr) (fun i _ => l.length - (intOf i).toNat)
  case atStart => exact ⟨0, Nat.zero_le _, rfl, by rw [mixB_start]; exact hown2, B42, B82, hF⟩
  case round =>
    clear hF B42 B82 hown2
    obtain ⟨k, hk, rfl, hown, B4, B8, hF⟩ := hrel
    have b4 := B4.cell
    have f4 := B4.frozen
    have b8 := B8.cell
    have f8 := B8.frozen
    have hsz := hF.size
    generalize wr = wo at *
    by_cases hlt : k < l.length
    · have hkS : k * g < S := (ceil_lt hg.1).1 (by unfold gran at hlen; have := hlen.out; omega)
      have Hend := fun (s : Nat) (h : s = min (k * g + g) S) => hidIt (to_end (f := f) (n := n) h hkS hg.1)
      have Hst := hidIt (mixB_step (bClear S g l f n) l k hlt)
      have Hsame := fun h => hidIt (mixB_same (bClear S g l f n) l k hlt h)
      have HgR := hidIt (bClear_getD (S := S) (g := g) (f := f) (n := n) hlt)
      have hmlen := mixB_len (bClear S g l f n) l k
      obtain ⟨gb, cap, hva, hgb, _⟩ := owns_succ hown (by omega)
      cases hva
      have hck := owns_at hown (j := k) (u := .bool ((mixB (bClear S g l f n) l k).getD k false)) (by rw [flatB_at, getD_some false (by omega)]; rfl)
      obtain ⟨hcell, hfz⟩ := hck
      have hmul : (k : Int) * (g : Int) = ((k * g : Nat) : Int) := by simp
      generalize k * g = m at *
      have h1s := oneTo_start m f n
      have h2s := allTo_start m f n
      go_wp2_with fail
      go_loopw [12, 13, 14, 15] (fun o a s _ wr => wr = wo ∧ ∃ q : Nat, m ≤ q ∧ q ≤ min (m + g) S ∧ s = .int .i64 q ∧ o = .bool (oneTo m f n q) ∧ a = .bool (allTo m f n q)) (fun _ _ s _ _ => m + g - (intOf s).toNat)
      case atStart => exact ⟨rfl, m, Nat.le_refl _, by omega, rfl, by rw [h1s], by rw [h2s]⟩
      case round =>
        obtain ⟨rfl, q, hmq, hqe, rfl, rfl, rfl⟩ := hrel
        clear h1s h2s
        by_cases hq : q < min (m + g) S
        · clear Hst Hsame HgR hcell hfz hown
          have hq1 : q < m + g := by omega
          have hq2 : q < S := by omega
          by_cases hq3 : f ≤ q ∧ q < f + n
          · obtain ⟨hq3, hq4⟩ := hq3
            have Ho := hidIt (to_in (n := n) hmq hq3 hq4)
            have hq7 : (q : Int) < (f : Int) + (n : Int) := by omega
            clear Hend
            generalize oneTo m f n q = A at *
            generalize allTo m f n q = C at *
            cases A <;> cases C
            all_goals go_wp2
            all_goals go_roundw
            all_goals first
              | exact ⟨rfl, q + 1, by omega, by omega, by go_num, by rw [Ho.out.1], by rw [Ho.out.2]⟩
              | exact ⟨trivial, q + 1, by omega, by omega, by go_num, by rw [Ho.out.1], by rw [Ho.out.2]⟩
              | (simp [intOf]; omega)
          · have Ho := hidIt (to_out (f := f) (n := n) hmq hq3)
            clear Hend
            generalize oneTo m f n q = A at *
            generalize allTo m f n q = C at *
            by_cases hq5 : f ≤ q
            · have hq6 : ¬ (q : Int) < (f : Int) + (n : Int) := by omega
              cases A <;> cases C
              all_goals go_wp2
              all_goals go_roundw
              all_goals first
                | exact ⟨rfl, q + 1, by omega, by omega, by go_num, by rw [Ho.out.1], by rw [Ho.out.2]⟩
                | exact ⟨trivial, q + 1, by omega, by omega, by go_num, by rw [Ho.out.1], by rw [Ho.out.2]⟩
                | (simp [intOf]; omega)
            · cases A <;> cases C
              all_goals go_wp2
              all_goals go_roundw
              all_goals first
                | exact ⟨rfl, q + 1, by omega, by omega, by go_num, by rw [Ho.out.1], by rw [Ho.out.2]⟩
                | exact ⟨trivial, q + 1, by omega, by omega, by go_num, by rw [Ho.out.1], by rw [Ho.out.2]⟩
                | (simp [intOf]; omega)
        · have He := Hend q (by omega)
          have HT : Hid (allTo m f n q = true → mixB (bClear S g l f n) l (k + 1) = (mixB (bClear S g l f n) l k).set k false) := hidIt (fun h => by rw [Hst.out, HgR.out, ← He.out.2, h]; rfl)
          have HN : Hid (allTo m f n q = false → mixB (bClear S g l f n) l (k + 1) = mixB (bClear S g l f n) l k) := hidIt (fun h => (Hsame (by rw [HgR.out, ← He.out.2, h]; rfl)).out)
          have hq1 : ¬ (q < m + g ∧ q < S) := by omega
          clear Hend Hst Hsame HgR He
          generalize oneTo m f n q = A at *
          generalize allTo m f n q = C at *
          have hneb : ¬ w.heap.size = gb := by omega
          have hneb1 : ¬ w.heap.size + 1 = gb := by omega
          by_cases hq2 : q < m + g
          · have hq3 : S ≤ q := by omega
            cases A <;> cases C
            all_goals go_wp2
            all_goals go_roundw
            all_goals first
              | exact ⟨k + 1, by omega, by go_num, by rw [HN.out rfl]; exact hown, B4, B8, hF⟩
              | exact ⟨k + 1, by omega, by go_num, by rw [HT.out rfl, flatB_set]; exact owns_put hown k _, B4.other hneb _, B8.other hneb1 _, hF.setCell (.inr (by show w.heap.size ≤ gb; omega)) _⟩
              | (simp [intOf]; omega)
          · have hq3 : m + g ≤ q := by omega
            cases A <;> cases C
            all_goals go_wp2
            all_goals go_roundw
            all_goals first
              | exact ⟨k + 1, by omega, by go_num, by rw [HN.out rfl]; exact hown, B4, B8, hF⟩
              | exact ⟨k + 1, by omega, by go_num, by rw [HT.out rfl, flatB_set]; exact owns_put hown k _, B4.other hneb _, B8.other hneb1 _, hF.setCell (.inr (by show w.heap.size ≤ gb; omega)) _⟩
              | (simp [intOf]; omega)
    · have hke : k = l.length := by omega
      rw [hke, mixB_end HR.out] at hown
      clear hke
      go_wp2
      have hsl := fun (W : World) (h : W.ownsRow w1.heap.size 4 1 (.slice a2 l.length c2) l.length ((bClear S g l f n).flatMap boolC)) => (show SlB W (.slice a2 l.length c2) (bClear S g l f n) from SlF.of_owns (base := w1.heap.size) (e := 4) (size := 1) (by rw [HR.out]; exact h))
      exact bodyPost_ret (v := .tuple #[rb S g (.slice a2 l.length c2), .int .i64 0]) (by simp [results, Try.results41, go_sem, rb, b8]) rfl ⟨_, rfl, hsl _ (owns_setCell (owns_setCell (owns_setCell (owns_setCell hown (by simp; omega) _) (by simp; omega) _) (by simp; omega) _) (by simp; omega) _), okV.of_owns hown,
        (((hF.setCell (.inr (by simp)) _).setCell (.inr (by simp)) _).setCell (.inr (by simp)) _).setCell (.inr (by simp)) _⟩
end Go.Proofs.Ytiifmakhfpllnaa

namespace Go.Proofs.Ytiifmakhfpllnaa
open Go.RowKit Go.Maps

set_option maxRecDepth 100000 in
set_option maxHeartbeats 800000 in
theorem rSet_no (S g : Nat) (v : Value) (l : List Bool) (f n : Int) (d : Bool) (w : World) (hv : SlB w v l) (hS : S ≤ 4096) (fw : -9223372036854775808 ≤ n ∧ n ≤ 9223372036854775807) (hin : ¬ insideB S f n) :
    Calls Try.prog 41 #[.agg #[.int .i64 S, .int .i64 g, v], .int .i64 f, .int .i64 n, .bool d] w
      fun e w' => e = .returned (.tuple #[rb S g v, .int .i64 1]) ∧ Fr [] w w' := by
  have hins : decide (insideB S f n) = false := by simpa using hin
  obtain ⟨av, cv, rfl, _, _, _⟩ := hv.open
  clear hin hv
  generalize l.length = m at *
  go_enter Try.func41, Try.ntmps41
  go_wp2_with fail
  refine (inside_calls S g _ f n _ hS fw).mono ?_
  rintro e w1 ⟨rfl, hf⟩
  rw [hins]
  have hF1 : Fr [] w w1 := (((Fr.refl _ w).alloc _).alloc _).trans0 hf
  have B4 : Blk w1 w.heap.size [.int .i64 S, .int .i64 g, .slice av m cv] 78 := ((Blk.new w [_, _, _] _).alloc _).fr0 hf
  have B8 : Blk w1 (w.heap.size + 1) [.int .i64 0, .int .i64 0, .slice none 0 0] 78 := (Blk.new' (by simp) [_, _, _] _).fr0 hf
  have hsz1 := hf.size
  simp only [World.size_alloc] at hsz1
  clear hf
  have b4 := B4.cell
  have b8 := B8.cell
  have f8 := B8.frozen
  go_wp2
  exact bodyPost_ret (v := .tuple #[rb S g (.slice av m cv), .int .i64 1]) (by simp [results, Try.results41, go_sem, rb, b8]) rfl ⟨rfl, ((hF1.setCell (.inr (by simp)) _).setCell (.inr (by simp)) _).setCell (.inr (by simp)) _⟩
set_option maxRecDepth 100000 in
set_option maxHeartbeats 800000 in
theorem rResize_no (S g : Nat) (v : Value) (l : List Bool) (s : Int) (w : World) (hv : SlB w v l) (hs : okSec s = false) :
    Calls Try.prog 43 #[.agg #[.int .i64 S, .int .i64 g, v], .int .i64 s] w
      fun e w' => e = .returned (.tuple #[rb S g v, .int .i64 1]) ∧ Fr [] w w' := by
  have hno : okNew s g = false := by simp [okNew, hs]
  obtain ⟨av, cv, rfl, _, _, _⟩ := hv.open
  clear hs hv
  generalize l.length = m at *
  go_enter Try.func43, Try.ntmps43
  go_wp2_with fail
  refine (rNew_no s g _ hno).mono ?_
  rintro e w1 ⟨rfl, hf⟩
  unfold z0
  have hF1 : Fr [] w w1 := (((Fr.refl _ w).alloc _).alloc _).trans0 hf
  have B4 : Blk w1 w.heap.size [.int .i64 S, .int .i64 g, .slice av m cv] 78 := ((Blk.new w [_, _, _] _).alloc _).fr0 hf
  have B8 : Blk w1 (w.heap.size + 1) [.int .i64 0, .int .i64 0, .slice none 0 0] 78 := (Blk.new' (by simp) [_, _, _] _).fr0 hf
  have hsz1 := hf.size
  simp only [World.size_alloc] at hsz1
  clear hf
  have b4 := B4.cell
  have l4 := B4.lt
  have b8 := B8.cell
  have f8 := B8.frozen
  have l8 := B8.lt
  go_wp2
  exact bodyPost_ret (v := .tuple #[rb S g (.slice av m cv), .int .i64 1]) (by simp [results, Try.results43, go_sem, rb, b8, l8]) rfl ⟨rfl, (((hF1.setCell (.inr (by simp)) _).setCell (.inr (by simp)) _).setCell (.inr (by simp)) _).alloc _⟩
theorem rzB_getD {S g : Nat} {l : List Bool} {n k : Nat} (hg : 0 < g) (hl : l.length = gran S g) (hk : k < gran n g) :
    (rzB S g l n).getD k false = if S < k * g + g ∧ S < n then true else (decide (l.length ≤ k) || l.getD k false) := by
  have hkn : k * g < n := (ceil_lt hg).1 hk
  have hlk : l.length ≤ k ↔ S ≤ k * g := by rw [hl]; exact ceil_le hg
  unfold rzB
  by_cases h : S < n
  · rw [if_pos h, bSet_getD (by rw [cutB_len]; exact hk), cutB_getD, if_pos hk]
    by_cases h2 : S < k * g + g
    · rw [if_pos ⟨h2, h⟩]
      have : oneB n g S (n - S) k = true := by simp only [oneB, decide_eq_true_eq]; omega
      rw [this]; rfl
    · rw [if_neg (fun h => h2 h.1)]
      have h3 : oneB n g S (n - S) k = false := by simp only [oneB, decide_eq_false_iff_not]; omega
      have h4 : decide (l.length ≤ k) = false := by simp only [decide_eq_false_iff_not]; omega
      rw [h3, h4]
  · rw [if_neg h, cutB_getD, if_pos hk, if_neg (fun h' => h h'.2)]
    have h4 : decide (l.length ≤ k) = false := by simp only [decide_eq_false_iff_not]; omega
    rw [h4]; rfl
theorem rzB_len {S g : Nat} {l : List Bool} {n : Nat} : (rzB S g l n).length = gran n g := by
  unfold rzB
  split
  · simp [bSet, cutB_len]
  · exact cutB_len _ _
set_option maxRecDepth 100000 in
set_option maxHeartbeats 4000000 in
theorem rResize_yes (S g : Nat) (v : Value) (l : List Bool) (n : Nat) (w : World) (hv : SlB w v l) (hp : pow2 g = true) (hS : S ≤ 4096) (hn : n ≤ 4096) (hlen : l.length = gran S g) :
    Calls Try.prog 43 #[.agg #[.int .i64 S, .int .i64 g, v], .int .i64 (n : Int)] w
      fun e w' => ∃ v', e = .returned (.tuple #[rb n g v', .int .i64 0]) ∧ SlB w' v' (rzB S g l n) ∧ okV v' ∧ Fr [] w w' := by
  have hg := pow2_le hp
  have hg0 : 0 < g := by omega
  have hle := gran_le hn hg0
  have hle1 := gran_le hS hg0
  obtain ⟨av, cv, rfl, _, _, _⟩ := hv.open
  have hle2 : l.length ≤ 4096 := by omega
  have HR : Hid ((rzB S g l n).length = (List.replicate (gran n g) false).length) := hidIt (by rw [rzB_len]; simp)
  replace hlen := hidIt hlen
  go_enter Try.func43, Try.ntmps43
  go_wp2_with fail
  refine (rNew_yes n g _ hn hp).mono ?_
  rintro e w1 ⟨v1, rfl, hown, hf⟩
  obtain ⟨a1, c1, rfl, _, _, _⟩ := Sl.of_owns hown
  unfold rb
  simp only [World.size_alloc] at hown
  have hF1 : Fr [] w w1 := (((Fr.refl _ w).alloc _).alloc _).trans0 hf
  have B2 : Blk w1 w.heap.size [.int .i64 S, .int .i64 g, .slice av l.length cv] 78 := ((Blk.new w [_, _, _] _).alloc _).fr0 hf
  have B4 : Blk w1 (w.heap.size + 1) [.int .i64 0, .int .i64 0, .slice none 0 0] 78 := (Blk.new' (by simp) [_, _, _] _).fr0 hf
  have hsz1 := hf.size
  simp only [World.size_alloc] at hsz1
  have hv1 := hv.fr0 hF1
  have B6 := Blk.new w1 [.int .i64 n, .int .i64 g, .slice a1 (gran n g) c1] 78
  have hF2 := hF1.alloc (.cells #[.int .i64 n, .int .i64 g, .slice a1 (gran n g) c1] 78)
  replace hown := hown.alloc (.cells #[.int .i64 n, .int .i64 g, .slice a1 (gran n g) c1] 78)
  replace B2 := B2.alloc (.cells #[.int .i64 n, .int .i64 g, .slice a1 (gran n g) c1] 78)
  replace B4 := B4.alloc (.cells #[.int .i64 n, .int .i64 g, .slice a1 (gran n g) c1] 78)
  clear hf hF1
  go_wp2_with fail
  go_loopw [8, 9] (fun i _ wr => ∃ k : Nat, k ≤ gran n g ∧ i = .int .i64 k ∧ wr.ownsRow (w.heap.size + 2) 4 1 (.slice a1 (gran n g) c1) (gran n g) ((mixB (rzB S g l n) (List.replicate (gran n g) false) k).flatMap boolC) ∧
    Blk wr w.heap.size [.int .i64 S, .int .i64 g, .slice av l.length cv] 78 ∧ Blk wr (w.heap.size + 1) [.int .i64 0, .int .i64 0, .slice none 0 0] 78 ∧
    Blk wr w1.heap.size [.int .i64 n, .int .i64 g, .slice a1 (gran n g) c1] 78 ∧ Fr [] w wr) (fun i _ _ => gran n g - (intOf i).toNat)
  case atStart => exact ⟨0, Nat.zero_le _, rfl, by rw [mixB_start]; exact hown, B2, B4, B6, hF2⟩
  case round =>
    clear hF2 B2 B4 B6 hown
    obtain ⟨k, hk, rfl, hown, B2, B4, B6, hF⟩ := hrel
    have b2 := B2.cell
    have b4 := B4.cell
    have f4 := B4.frozen
    have b6 := B6.cell
    have l2 := B2.lt
    have l4 := B4.lt
    have l6 := B6.lt
    by_cases hlt : k < gran n g
    · have hkm : k * g < n := (ceil_lt hg0).1 hlt
      have Hst := hidIt (mixB_step (rzB S g l n) (List.replicate (gran n g) false) k (by simp; exact hlt))
      have HgR := hidIt (rzB_getD (S := S) (l := l) hg0 hlen.out hlt)
      obtain ⟨gb, cap, hva, hgb, _⟩ := owns_succ hown (by omega)
      cases hva
      have hml : (mixB (rzB S g l n) (List.replicate (gran n g) false) k).length = gran n g := by rw [mixB_len]; simp
      obtain ⟨hcell, hfz⟩ := owns_at hown (j := k) (u := .bool ((mixB (rzB S g l n) (List.replicate (gran n g) false) k).getD k false)) (by rw [flatB_at, getD_some false (by omega)]; rfl)
      have hneb : ¬ w.heap.size = gb := by omega
      have hneb1 : ¬ w.heap.size + 1 = gb := by omega
      have hmul : (k : Int) * (g : Int) = ((k * g : Nat) : Int) := by simp
      generalize k * g = m at *
      have hne6 : ¬ w1.heap.size = gb := by
        rintro rfl
        have h1 := (hown.lt w1.heap.size rfl)
        rcases hown.2 with ⟨h2, _⟩ | ⟨g', cap', cur, h2, _, h3, _⟩
        · cases h2
        · cases h2
          have := h3.symm.trans B6
          cases this
      generalize mixB (rzB S g l n) (List.replicate (gran n g) false) k = M at *
      generalize gran n g = G at *
      by_cases h1 : k < l.length
      · obtain ⟨b, off, hab, hb, c0⟩ := SlB.at (hv.fr0 hF) h1
        cases hab
        generalize l.getD k false = q at *
        by_cases h2 : S < m + g
        · by_cases h3 : S < n
          · rw [if_pos ⟨h2, h3⟩] at HgR
            rw [HgR.out] at Hst
            clear HgR hlen HR
            go_wp2_with fail
            refine wp_region_still_tail 16 follows (by as_aux_lemma => kernel_rfl) ?_
            simp only [List.take_succ_cons, List.take_zero, List.drop_succ_cons, List.drop_zero]
            change wpStill _ _ (World.drew _) _ _ _
            iterate 16 still_step
            refine wpStill_nil ?_
            change wpList _ _ _ _ _ (World.drew _)
            go_wp2
            exact ⟨⟨k + 1, by omega, by go_num, by rw [Hst.out, flatB_set, ← List.set_set (a := Value.bool (decide (l.length ≤ k) || q))]; exact owns_drew (owns_put (owns_put hown k (.bool (decide (l.length ≤ k) || q))) k (.bool true)), ((B2.other hneb _).other hneb _).drew, ((B4.other hneb1 _).other hneb1 _).drew, ((B6.other hne6 _).other hne6 _).drew, ((hF.setCell (.inr (by show w.heap.size ≤ gb; omega)) _).setCell (.inr (by show w.heap.size ≤ gb; omega)) _).drew⟩, by simp [intOf]; omega⟩
          · rw [if_neg (fun h => h3 h.2)] at HgR
            rw [HgR.out] at Hst
            clear HgR hlen HR
            go_wp2_with fail
            refine wp_region_still_tail 16 follows (by as_aux_lemma => kernel_rfl) ?_
            simp only [List.take_succ_cons, List.take_zero, List.drop_succ_cons, List.drop_zero]
            change wpStill _ _ (World.drew _) _ _ _
            iterate 16 still_step
            refine wpStill_nil ?_
            change wpList _ _ _ _ _ (World.drew _)
            go_wp2
            exact ⟨⟨k + 1, by omega, by go_num, by rw [Hst.out, flatB_set]; exact owns_drew (owns_put hown k _), (B2.other hneb _).drew, (B4.other hneb1 _).drew, (B6.other hne6 _).drew, (hF.setCell (.inr (by show w.heap.size ≤ gb; omega)) _).drew⟩, by simp [intOf]; omega⟩
        · rw [if_neg (fun h => h2 h.1)] at HgR
          rw [HgR.out] at Hst
          clear HgR hlen HR
          go_wp2_with fail
          refine wp_region_still_tail 16 follows (by as_aux_lemma => kernel_rfl) ?_
          simp only [List.take_succ_cons, List.take_zero, List.drop_succ_cons, List.drop_zero]
          change wpStill _ _ (World.drew _) _ _ _
          iterate 16 still_step
          refine wpStill_nil ?_
          change wpList _ _ _ _ _ (World.drew _)
          go_wp2
          exact ⟨⟨k + 1, by omega, by go_num, by rw [Hst.out, flatB_set]; exact owns_drew (owns_put hown k _), (B2.other hneb _).drew, (B4.other hneb1 _).drew, (B6.other hne6 _).drew, (hF.setCell (.inr (by show w.heap.size ≤ gb; omega)) _).drew⟩, by simp [intOf]; omega⟩
      · have hdk : decide (l.length ≤ k) = true := by simp; omega
        rw [hdk, Bool.true_or] at HgR
        clear hdk
        by_cases h2 : S < m + g
        · by_cases h3 : S < n
          · rw [if_pos ⟨h2, h3⟩] at HgR
            rw [HgR.out] at Hst
            clear HgR hlen HR
            go_wp2_with fail
            refine wp_region_still_tail 16 follows (by as_aux_lemma => kernel_rfl) ?_
            simp only [List.take_succ_cons, List.take_zero, List.drop_succ_cons, List.drop_zero]
            change wpStill _ _ (World.drew _) _ _ _
            iterate 16 still_step
            refine wpStill_nil ?_
            change wpList _ _ _ _ _ (World.drew _)
            go_wp2
            exact ⟨⟨k + 1, by omega, by go_num, by rw [Hst.out, flatB_set, ← List.set_set (a := Value.bool (true))]; exact owns_drew (owns_put (owns_put hown k (.bool (true))) k (.bool true)), ((B2.other hneb _).other hneb _).drew, ((B4.other hneb1 _).other hneb1 _).drew, ((B6.other hne6 _).other hne6 _).drew, ((hF.setCell (.inr (by show w.heap.size ≤ gb; omega)) _).setCell (.inr (by show w.heap.size ≤ gb; omega)) _).drew⟩, by simp [intOf]; omega⟩
          · rw [if_neg (fun h => h3 h.2)] at HgR
            rw [HgR.out] at Hst
            clear HgR hlen HR
            go_wp2_with fail
            refine wp_region_still_tail 16 follows (by as_aux_lemma => kernel_rfl) ?_
            simp only [List.take_succ_cons, List.take_zero, List.drop_succ_cons, List.drop_zero]
            change wpStill _ _ (World.drew _) _ _ _
            iterate 16 still_step
            refine wpStill_nil ?_
            change wpList _ _ _ _ _ (World.drew _)
            go_wp2
            exact ⟨⟨k + 1, by omega, by go_num, by rw [Hst.out, flatB_set]; exact owns_drew (owns_put hown k _), (B2.other hneb _).drew, (B4.other hneb1 _).drew, (B6.other hne6 _).drew, (hF.setCell (.inr (by show w.heap.size ≤ gb; omega)) _).drew⟩, by simp [intOf]; omega⟩
        · rw [if_neg (fun h => h2 h.1)] at HgR
          rw [HgR.out] at Hst
          clear HgR hlen HR
          go_wp2_with fail
          refine wp_region_still_tail 16 follows (by as_aux_lemma => kernel_rfl) ?_
          simp only [List.take_succ_cons, List.take_zero, List.drop_succ_cons, List.drop_zero]
          change wpStill _ _ (World.drew _) _ _ _
          iterate 16 still_step
          refine wpStill_nil ?_
          change wpList _ _ _ _ _ (World.drew _)
          go_wp2
          exact ⟨⟨k + 1, by omega, by go_num, by rw [Hst.out, flatB_set]; exact owns_drew (owns_put hown k _), (B2.other hneb _).drew, (B4.other hneb1 _).drew, (B6.other hne6 _).drew, (hF.setCell (.inr (by show w.heap.size ≤ gb; omega)) _).drew⟩, by simp [intOf]; omega⟩
    · have hke : k = gran n g := by omega
      have hend := mixB_end HR.out
      rw [List.length_replicate] at hend
      rw [hke, hend] at hown
      clear hke hend
      go_wp2
      have hsl := fun (W : World) (h : W.ownsRow (w.heap.size + 2) 4 1 (.slice a1 (gran n g) c1) (gran n g) ((rzB S g l n).flatMap boolC)) => (show SlB W (.slice a1 (gran n g) c1) (rzB S g l n) from SlF.of_owns (base := w.heap.size + 2) (e := 4) (size := 1) (by rw [rzB_len]; exact h))
      exact bodyPost_ret (v := .tuple #[rb n g (.slice a1 (gran n g) c1), .int .i64 0]) (by simp [results, Try.results43, go_sem, rb, b4]) rfl ⟨_, rfl, hsl _ (owns_setCell (owns_setCell (owns_setCell hown (by simp) _) (by simp) _) (by simp) _), okV.of_owns hown,
        ((hF.setCell (.inr (by simp)) _).setCell (.inr (by simp)) _).setCell (.inr (by simp)) _⟩
end Go.Proofs.Ytiifmakhfpllnaa

namespace Go.Proofs.Ytiifmakhfpllnaa
open Go.RowKit Go.Maps

/-- the reference's value reads so -/
structure RefB (w : World) (v : Value) (S g : Nat) (l : List Bool) : Prop where
  row : ∃ u, v = rb S g u ∧ SlB w u l ∧ okV u
  size : S ≤ 4096
  grain : pow2 g = true
  len : l.length = gran S g
theorem RefB.fr0 {w w' : World} {v : Value} {S g : Nat} {l : List Bool} (h : RefB w v S g l) (hf : Fr [] w w') : RefB w' v S g l := by
  obtain ⟨u, h1, h2, h3⟩ := h.row
  exact ⟨⟨u, h1, h2.fr0 hf, h3⟩, h.size, h.grain, h.len⟩
theorem SlB.keep {w w' : World} {v : Value} {l : List Bool} (h : SlB w v l) {b : Nat} {cs : List Value} {t : TypeId} (B : Blk w b cs t) (hcs : ∀ x ∈ cs, ∀ q, x ≠ .bool q) (hf : Fr [b] w w') : SlB w' v l := by
  obtain ⟨a, cap, rfl, h1, h2, hc⟩ := h
  refine ⟨a, cap, rfl, h1, h2, ?_⟩
  cases l with
  | nil => exact .inl rfl
  | cons x l =>
    rcases hc with he | ⟨b', off, rfl, hb, hc⟩
    · simp at he
    · refine SlC.fr (.inr ⟨b', off, rfl, hb, hc⟩) hf fun p hp hm => ?_
      cases hp
      have hbb : b' = b := by simpa using hm
      subst hbb
      have h0 := hc 0 (.bool x) (by simp)
      rw [Nat.add_zero, B.cell off] at h0
      exact hcs _ (List.mem_of_getElem? h0) x rfl
theorem noB {x y : Int} {u : Option Addr} {n c : Nat} : ∀ z ∈ [Value.int .i64 x, .int .i64 y, .slice u n c], ∀ q, z ≠ .bool q := by
  intro z hz q
  simp at hz
  rcases hz with rfl | rfl | rfl <;> simp
theorem doS_len {g : Nat} {st : Nat × List Bool} {o : Op3} (hS : st.1 ≤ 4096) (hl : st.2.length = gran st.1 g) : (doS g st o).1.1 ≤ 4096 ∧ (doS g st o).1.2.length = gran (doS g st o).1.1 g := by
  unfold doS
  split
  · split
    · exact ⟨hS, by simp [bSet]; exact hl⟩
    · exact ⟨hS, hl⟩
  · split
    · split
      · exact ⟨hS, by simp [bClear]; exact hl⟩
      · exact ⟨hS, hl⟩
    · split
      · split
        · rename_i h
          simp [okSec] at h
          exact ⟨by show o.2.2.toNat ≤ 4096; omega, rzB_len⟩
        · exact ⟨hS, hl⟩
      · exact ⟨hS, hl⟩
theorem rSet_calls (S g : Nat) (u : Value) (l : List Bool) (f n : Int) (d : Bool) (w : World) (h : RefB w (rb S g u) S g l) (fw : -9223372036854775808 ≤ n ∧ n ≤ 9223372036854775807) :
    Calls Try.prog 41 #[rb S g u, .int .i64 f, .int .i64 n, .bool d] w
      fun e w' => ∃ u', e = .returned (.tuple #[rb S g u', .int .i64 (doS g (S, l) (if d = true then 0 else 1, f, n)).2]) ∧ (doS g (S, l) (if d = true then 0 else 1, f, n)).1.1 = S ∧ SlB w' u' (doS g (S, l) (if d = true then 0 else 1, f, n)).1.2 ∧ okV u' ∧ Fr [] w w' := by
  obtain ⟨⟨u1, h1, h2, h3⟩, hS, hp, hl⟩ := h
  have : u = u1 := by
    have := (Value.agg.inj h1)
    simpa using this
  subst this
  have hg := pow2_le hp
  have hg' : 0 < g ∧ g ≤ 64 := by omega
  by_cases hin : insideB S f n
  · obtain ⟨f, rfl⟩ := Int.eq_ofNat_of_zero_le hin.2.1
    obtain ⟨n, rfl⟩ := Int.eq_ofNat_of_zero_le hin.1
    have hfn : f + n ≤ S := by have h1 := hin.2.2.1; have h2 := hin.2.2.2; omega
    cases d
    · have e : doS g (S, l) (1, (f : Int), (n : Int)) = ((S, bClear S g l f n), 0) := by simp [doS, hin]
      simp only [Bool.false_eq_true, if_false]
      rw [e]
      refine (rSet_false S g u l f n w h2 h3 hS hg' hl hfn).mono ?_
      rintro e w1 ⟨u', rfl, a1, a2, a3⟩
      exact ⟨u', rfl, rfl, a1, a2, a3⟩
    · have e : doS g (S, l) (0, (f : Int), (n : Int)) = ((S, bSet S g l f n), 0) := by simp [doS, hin]
      simp only [if_true]
      rw [e]
      refine (rSet_true S g u l f n w h2 h3 hS hg' hl hfn).mono ?_
      rintro e w1 ⟨u', rfl, a1, a2, a3⟩
      exact ⟨u', rfl, rfl, a1, a2, a3⟩
  · have e : doS g (S, l) (if d = true then 0 else 1, f, n) = ((S, l), 1) := by cases d <;> simp [doS, hin]
    rw [e]
    refine (rSet_no S g u l f n d w h2 hS fw hin).mono ?_
    rintro e w1 ⟨rfl, hf⟩
    exact ⟨u, rfl, rfl, h2.fr0 hf, h3, hf⟩
theorem rResize_calls (S g : Nat) (u : Value) (l : List Bool) (f n : Int) (w : World) (h : RefB w (rb S g u) S g l) :
    Calls Try.prog 43 #[rb S g u, .int .i64 n] w
      fun e w' => ∃ u', e = .returned (.tuple #[rb (doS g (S, l) (2, f, n)).1.1 g u', .int .i64 (doS g (S, l) (2, f, n)).2]) ∧ SlB w' u' (doS g (S, l) (2, f, n)).1.2 ∧ okV u' ∧ Fr [] w w' := by
  obtain ⟨⟨u1, h1, h2, h3⟩, hS, hp, hl⟩ := h
  have : u = u1 := by
    have := (Value.agg.inj h1)
    simpa using this
  subst this
  by_cases hin : okSec n = true
  · have hb : 0 ≤ n ∧ n ≤ 4096 := by simpa [okSec] using hin
    obtain ⟨n, rfl⟩ := Int.eq_ofNat_of_zero_le hb.1
    have e : doS g (S, l) (2, f, (n : Int)) = ((n, rzB S g l n), 0) := by simp [doS, hin]
    rw [e]
    exact rResize_yes S g u l n w h2 hp hS (by omega) hl
  · have e : doS g (S, l) (2, f, n) = ((S, l), 1) := by simp [doS, hin]
    rw [e]
    refine (rResize_no S g u l n w h2 (by simpa using hin)).mono ?_
    rintro e w1 ⟨rfl, hf⟩
    exact ⟨u, rfl, h2.fr0 hf, h3, hf⟩
end Go.Proofs.Ytiifmakhfpllnaa

namespace Go.Proofs.Ytiifmakhfpllnaa
open Go.RowKit Go.Maps

/-- what there is behind a script -/
def runS (g : Nat) (st : Nat × List Bool) (ops : List Op3) : Nat × List Bool := ops.foldl (fun s o => (doS g s o).1) st
theorem runS_succ (g : Nat) (st : Nat × List Bool) (ops : List Op3) (k : Nat) (hk : k < ops.length) : runS g st (ops.take (k + 1)) = (doS g (runS g st (ops.take k)) (ops.getD k z3)).1 := by
  have hg : ops[k] = ops.getD k z3 := by rw [List.getD_eq_getElem?_getD, List.getElem?_eq_getElem hk]; rfl
  rw [List.take_succ_eq_append_getElem hk, hg]
  unfold runS
  rw [List.foldl_append]
  rfl
def stOf (s g : Int) (ops : List Op3) : Nat × List Bool := runS g.toNat (s.toNat, List.replicate (gran s.toNat g.toNat) false) ops
/-- there are such bits -/
def okMade (s g : Int) (ops : List Op3) : Bool := okNew s g && fewS s ops
def someBits (v : Value) : Prop := ∃ (x y : Int) (a : Option Addr) (n c : Nat), v = .agg #[.int .i64 x, .int .i64 y, .slice a n c]
theorem someBits.z : someBits z0 := ⟨0, 0, none, 0, 0, rfl⟩
theorem RefB.some {w : World} {v : Value} {S g : Nat} {l : List Bool} (h : RefB w v S g l) : someBits v := by
  obtain ⟨u, rfl, h2, _⟩ := h.row
  obtain ⟨a, c, rfl, _⟩ := SlF.open h2
  exact ⟨_, _, a, _, c, rfl⟩
end Go.Proofs.Ytiifmakhfpllnaa
