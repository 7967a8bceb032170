/-
  The reference of layer 10: Set, of what is made clean.
-/
import Derived.Test.YtfmolbgfhchdkaaBitS
namespace Go.Proofs.Ytfmolbgfhchdkaa
open Go.RowKit Go.Maps

set_option maxRecDepth 100000 in
set_option maxHeartbeats 4000000 in
theorem rSet_false (S g : Nat) (v : Value) (l : List Bool) (f n : Nat) (w : World) (hv : SlB w v l) (hok : okV v) (hS : S ≤ 4096) (hg : 0 < g ∧ g ≤ 64) (hlen : l.length = gran S g) (hin : f + n ≤ S) :
    Calls Try.prog 42 #[.agg #[.int .i64 S, .int .i64 g, v], .int .i64 (f : Int), .int .i64 (n : Int), .bool false] w
      fun e w' => ∃ v', e = .returned (.tuple #[rb S g v', .int .i64 0]) ∧ SlB w' v' (bClear S g l f n) ∧ okV v' ∧ Fr [] w w' := by
  have hle := gran_le hS hg.1
  have hins : decide (insideB S (f : Int) (n : Int)) = true := by simp [insideB]; omega
  have HR : Hid ((bClear S g l f n).length = l.length) := hidIt (by simp [bClear])
  obtain ⟨av, cv, rfl, _, _, _⟩ := hv.open
  have hle2 : l.length ≤ 4096 := by omega
  replace hlen := hidIt hlen
  go_enter Try.func42, Try.ntmps42
  go_wp2_with fail
  refine (inside_calls S g _ f n _ hS (by omega)).mono ?_
  rintro e w1 ⟨rfl, hf⟩
  rw [hins]
  have hF1 : Fr [] w w1 := (((Fr.refl _ w).alloc _).alloc _).trans0 hf
  have B4 : Blk w1 w.heap.size [.int .i64 S, .int .i64 g, .slice av l.length cv] 28 := ((Blk.new w [_, _, _] _).alloc _).fr0 hf
  have B8 : Blk w1 (w.heap.size + 1) [.int .i64 0, .int .i64 0, .slice none 0 0] 28 := (Blk.new' (by simp) [_, _, _] _).fr0 hf
  have hsz1 := hf.size
  simp only [World.size_alloc] at hsz1
  have hv1 := hv.fr0 hF1
  clear hf hv
  have b4 := B4.cell
  have l4 := B4.lt
  go_wp2_with (at_builtin; refine Hid.out ?_)
  refine hidIt ?_
  refine wpList_append_sl 26 4 (.bool false) 1 1 Try.underlying26 infoBool rfl (by decide) (by decide) rfl _ _ rfl w1.heap.size _ 0 _ rfl (World.ownsRow_made w1 _ 0 (Nat.le_refl _) (by decide) rfl) _ l.length (l.flatMap boolC) (Sl.fr0 hv1 ((Fr.refl _ _).alloc _)) hok (by rw [flatB_length, Nat.mul_one]) (flat_one (fun _ => bool_one) l) rfl (by omega) (by omega) (by simp) ?_
  intro v2 w2 hown2 hgrow
  rw [Nat.zero_add, List.nil_append] at hown2
  have hf2 : Fr [] w1 w2 := ((Fr.refl [] w1).alloc _).grown hgrow (fun x hx => .inr (by cases hx; exact Nat.le_refl _))
  replace hF := hF1.trans0 hf2
  have B42 := B4.fr0 hf2
  have B82 := B8.fr0 hf2
  clear B4 B8 b4 hf2 hgrow hF1 hok hv1
  obtain ⟨a2, c2, rfl, _, _, _⟩ := Sl.of_owns hown2
  go_wp2_with fail
  go_loopw [11] (fun i wr => ∃ k : Nat, k ≤ l.length ∧ i = .int .i64 k ∧ wr.ownsRow w1.heap.size 4 1 (.slice a2 l.length c2) l.length ((mixB (bClear S g l f n) l k).flatMap boolC) ∧
    Blk wr w.heap.size [.int .i64 S, .int .i64 g, .slice av l.length cv] 28 ∧ Blk wr (w.heap.size + 1) [.int .i64 0, .int .i64 0, .slice none 0 0] 28 ∧ Fr [] w wr) (fun i _ => l.length - (intOf i).toNat)
  case atStart => exact ⟨0, Nat.zero_le _, rfl, by rw [mixB_start]; exact hown2, B42, B82, hF⟩
  case round =>
    clear hF B42 B82 hown2
    obtain ⟨k, hk, rfl, hown, B4, B8, hF⟩ := hrel
    have b4 := B4.cell
    have f4 := B4.frozen
    have b8 := B8.cell
    have f8 := B8.frozen
    have hsz := hF.size
    generalize wr = wo at *
    by_cases hlt : k < l.length
    · have hkS : k * g < S := (ceil_lt hg.1).1 (by unfold gran at hlen; have := hlen.out; omega)
      have Hend := fun (s : Nat) (h : s = min (k * g + g) S) => hidIt (to_end (f := f) (n := n) h hkS hg.1)
      have Hst := hidIt (mixB_step (bClear S g l f n) l k hlt)
      have Hsame := fun h => hidIt (mixB_same (bClear S g l f n) l k hlt h)
      have HgR := hidIt (bClear_getD (S := S) (g := g) (f := f) (n := n) hlt)
      have hmlen := mixB_len (bClear S g l f n) l k
      obtain ⟨gb, cap, hva, hgb, _⟩ := owns_succ hown (by omega)
      cases hva
      have hck := owns_at hown (j := k) (u := .bool ((mixB (bClear S g l f n) l k).getD k false)) (by rw [flatB_at, getD_some false (by omega)]; rfl)
      obtain ⟨hcell, hfz⟩ := hck
      have hmul : (k : Int) * (g : Int) = ((k * g : Nat) : Int) := by simp
      generalize k * g = m at *
      have h1s := oneTo_start m f n
      have h2s := allTo_start m f n
      go_wp2_with fail
      go_loopw [12, 13, 14, 15] (fun o a s _ wr => wr = wo ∧ ∃ q : Nat, m ≤ q ∧ q ≤ min (m + g) S ∧ s = .int .i64 q ∧ o = .bool (oneTo m f n q) ∧ a = .bool (allTo m f n q)) (fun _ _ s _ _ => m + g - (intOf s).toNat)
      case atStart => exact ⟨rfl, m, Nat.le_refl _, by omega, rfl, by rw [h1s], by rw [h2s]⟩
      case round =>
        obtain ⟨rfl, q, hmq, hqe, rfl, rfl, rfl⟩ := hrel
        clear h1s h2s
        by_cases hq : q < min (m + g) S
        · clear Hst Hsame HgR hcell hfz hown
          have hq1 : q < m + g := by omega
          have hq2 : q < S := by omega
          by_cases hq3 : f ≤ q ∧ q < f + n
          · obtain ⟨hq3, hq4⟩ := hq3
            have Ho := hidIt (to_in (n := n) hmq hq3 hq4)
            have hq7 : (q : Int) < (f : Int) + (n : Int) := by omega
            clear Hend
            generalize oneTo m f n q = A at *
            generalize allTo m f n q = C at *
            cases A <;> cases C
            all_goals go_wp2
            all_goals go_roundw
            all_goals first
              | exact ⟨rfl, q + 1, by omega, by omega, by go_num, by rw [Ho.out.1], by rw [Ho.out.2]⟩
              | exact ⟨trivial, q + 1, by omega, by omega, by go_num, by rw [Ho.out.1], by rw [Ho.out.2]⟩
              | (simp [intOf]; omega)
          · have Ho := hidIt (to_out (f := f) (n := n) hmq hq3)
            clear Hend
            generalize oneTo m f n q = A at *
            generalize allTo m f n q = C at *
            by_cases hq5 : f ≤ q
            · have hq6 : ¬ (q : Int) < (f : Int) + (n : Int) := by omega
              cases A <;> cases C
              all_goals go_wp2
              all_goals go_roundw
              all_goals first
                | exact ⟨rfl, q + 1, by omega, by omega, by go_num, by rw [Ho.out.1], by rw [Ho.out.2]⟩
                | exact ⟨trivial, q + 1, by omega, by omega, by go_num, by rw [Ho.out.1], by rw [Ho.out.2]⟩
                | (simp [intOf]; omega)
            · cases A <;> cases C
              all_goals go_wp2
              all_goals go_roundw
              all_goals first
                | exact ⟨rfl, q + 1, by omega, by omega, by go_num, by rw [Ho.out.1], by rw [Ho.out.2]⟩
                | exact ⟨trivial, q + 1, by omega, by omega, by go_num, by rw [Ho.out.1], by rw [Ho.out.2]⟩
                | (simp [intOf]; omega)
        · have He := Hend q (by omega)
          have HT : Hid (allTo m f n q = true → mixB (bClear S g l f n) l (k + 1) = (mixB (bClear S g l f n) l k).set k false) := hidIt (fun h => by rw [Hst.out, HgR.out, ← He.out.2, h]; rfl)
          have HN : Hid (allTo m f n q = false → mixB (bClear S g l f n) l (k + 1) = mixB (bClear S g l f n) l k) := hidIt (fun h => (Hsame (by rw [HgR.out, ← He.out.2, h]; rfl)).out)
          have hq1 : ¬ (q < m + g ∧ q < S) := by omega
          clear Hend Hst Hsame HgR He
          generalize oneTo m f n q = A at *
          generalize allTo m f n q = C at *
          have hneb : ¬ w.heap.size = gb := by omega
          have hneb1 : ¬ w.heap.size + 1 = gb := by omega
          by_cases hq2 : q < m + g
          · have hq3 : S ≤ q := by omega
            cases A <;> cases C
            all_goals go_wp2
            all_goals go_roundw
            all_goals first
              | exact ⟨k + 1, by omega, by go_num, by rw [HN.out rfl]; exact hown, B4, B8, hF⟩
              | exact ⟨k + 1, by omega, by go_num, by rw [HT.out rfl, flatB_set]; exact owns_put hown k _, B4.other hneb _, B8.other hneb1 _, hF.setCell (.inr (by show w.heap.size ≤ gb; omega)) _⟩
              | (simp [intOf]; omega)
          · have hq3 : m + g ≤ q := by omega
            cases A <;> cases C
            all_goals go_wp2
            all_goals go_roundw
            all_goals first
              | exact ⟨k + 1, by omega, by go_num, by rw [HN.out rfl]; exact hown, B4, B8, hF⟩
              | exact ⟨k + 1, by omega, by go_num, by rw [HT.out rfl, flatB_set]; exact owns_put hown k _, B4.other hneb _, B8.other hneb1 _, hF.setCell (.inr (by show w.heap.size ≤ gb; omega)) _⟩
              | (simp [intOf]; omega)
    · have hke : k = l.length := by omega
      rw [hke, mixB_end HR.out] at hown
      clear hke
      go_wp2
      have hsl := fun (W : World) (h : W.ownsRow w1.heap.size 4 1 (.slice a2 l.length c2) l.length ((bClear S g l f n).flatMap boolC)) => (show SlB W (.slice a2 l.length c2) (bClear S g l f n) from SlF.of_owns (base := w1.heap.size) (e := 4) (size := 1) (by rw [HR.out]; exact h))
      exact bodyPost_ret (v := .tuple #[rb S g (.slice a2 l.length c2), .int .i64 0]) (by simp [results, Try.results42, go_sem, rb, b8]) rfl ⟨_, rfl, hsl _ (owns_setCell (owns_setCell (owns_setCell (owns_setCell hown (by simp; omega) _) (by simp; omega) _) (by simp; omega) _) (by simp; omega) _), okV.of_owns hown,
        (((hF.setCell (.inr (by simp)) _).setCell (.inr (by simp)) _).setCell (.inr (by simp)) _).setCell (.inr (by simp)) _⟩
end Go.Proofs.Ytfmolbgfhchdkaa
