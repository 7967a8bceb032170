/-
  maps.Equal, bits.Same.
-/
import Derived.Test.YtfmolbgfhchdkaaBitI
namespace Go.Proofs.Ytfmolbgfhchdkaa
open Go.RowKit Go.Maps
attribute [local go_sem] mapAt_alloc mapAt_setCell mapAt_drew mapAt_drewN

/-- every granule that is dirty here is so there -/
def subB (l l' : List Bool) : Prop := ∀ k, l.getD k false = true → l'.getD k false = true
theorem cnt_sub {l l' : List Bool} (hl : l.length = l'.length) (hc : cnt l = cnt l') (hs : subB l l') : l = l' := by
  have hsub : ((List.range l.length).filter fun k => l.getD k false).Sublist ((List.range l.length).filter fun k => l'.getD k false) := by
    have h1 : ((List.range l.length).filter fun k => l.getD k false) = (((List.range l.length).filter fun k => l'.getD k false).filter fun k => l.getD k false) := by
      rw [List.filter_filter]
      refine List.filter_congr fun k _ => ?_
      cases h : l.getD k false with
      | false => rfl
      | true => rw [hs k h]; rfl
    rw [h1]
    exact List.filter_sublist
  have heq := hsub.eq_of_length (by unfold cnt at hc; rw [hl] at hc ⊢; exact hc)
  refine extB hl fun i hi => ?_
  have := congrArg (fun L => decide (i ∈ L)) heq
  simp only [List.mem_filter, List.mem_range, hi, true_and] at this
  rw [Bool.eq_iff_iff]
  simpa using this
def sameB (S g : Nat) (l : List Bool) (S' g' : Nat) (l' : List Bool) : Bool := decide (S = S') && decide (g = g') && decide (l = l')
set_option maxRecDepth 100000 in
set_option maxHeartbeats 1600000 in
theorem Equal_calls (mb mb' : Nat) (l l' : List Bool) (w : World) {es es' : Array MapEntry} {clock clock' : Nat} (hm : mapAt w mb = some (es, clock)) (hi : IsM Try.prog 3 es clock (bitM l)) (hm' : mapAt w mb' = some (es', clock')) (hi' : IsM Try.prog 3 es' clock' (bitM l'))
    (hl : l.length ≤ 4096) (hl' : l'.length ≤ 4096) (hll : l.length = l'.length) :
    Calls Try.prog 41 #[.map (some mb), .map (some mb')] w fun e w' => e = .returned (.bool (decide (l = l'))) ∧ Fr [] w w' := by
  have hc := cnt_le l
  have hc' := cnt_le l'
  have hlen : ∀ W, mapAt W mb = some (es, clock) → _ := fun W hW => run_len_map (P := Try.prog) (T := 69) (ty := 3) (E := 3) Try.underlying69 W hW
  have hlen' : ∀ W, mapAt W mb' = some (es', clock') → _ := fun W hW => run_len_map (P := Try.prog) (T := 69) (ty := 3) (E := 3) Try.underlying69 W hW
  rw [cnt_size hi] at hlen
  rw [cnt_size hi'] at hlen'
  by_cases hcc : cnt l = cnt l'
  · have Heq : Hid (subB l l' → decide (l = l') = true) := hidIt (fun h => by rw [cnt_sub hll hcc h]; simp)
    have Hne : Hid (¬ subB l l' → decide (l = l') = false) := hidIt (fun h => by simp; rintro rfl; exact h (fun k h => h))
    generalize decide (l = l') = res at *
    have hMlt := mapAt_lt hm
    have hMlt' := mapAt_lt hm'
    generalize cnt l = cl at *
    generalize cnt l' = cl' at *
    subst hcc
    have hlook : ∀ (W : World) (k : Nat), mapAt W mb' = some (es', clock') → k < 1000000 → (Instr.lookup 69 (.map (some mb')) (.int .i64 (k : Int)) true).run Try.prog W = .ok (.tuple #[.int .i64 (if l'.getD k false = true then 1 else 0), .bool (l'.getD k false)]) W := fun W k hW hk => by
      rw [run_lookup_isM (z := .int .i64 0) Try.underlying69 keyInt hi' true (keyI (by omega) (by omega)) W (by kernel_rfl) hW, bitM_int]
      rw [Int.toNat_natCast]
      generalize l'.getD k false = q
      cases q <;> simp
    go_enter Try.func41, Try.ntmps41
    go_wp2_with (first
      | (at_range; refine wpList_range_isM rfl _ _ rfl Try.underlying69 hi mb rfl hm ?_; intro hrg0)
      | go_in)
    go_frame
    have hF0 : Fr [] w (w.alloc (.mapIter (some mb) clock #[] clock)) := (Fr.refl _ _).alloc _
    go_loopw [5, 6, 7, 8] (fun _ _ _ _ wr => ∃ L cnt, RngM Try.prog 3 wr mb w.heap.size (bitM l) L cnt ∧ (∀ k : Nat, L (.int .i64 (k : Int)) ∨ (l.getD k false = true → l'.getD k false = true)) ∧ Fr [] w wr) (fun _ _ _ _ wr => wr.rangeLeft mb w.heap.size)
    case atStart => exact ⟨_, _, hrg0, fun k => by
      by_cases h : l.getD k false = true
      · exact .inl (by rw [bitM_int, if_pos ⟨by omega, by rw [Int.toNat_natCast]; exact h⟩]; rfl)
      · exact .inr (fun h' => absurd h' h), hF0⟩
    case round =>
      obtain ⟨L, cnt, hrg, hL, hF⟩ := hrel
      have hleft := hidIt hrg.left
      generalize wr = wo at *
      go_wp2_with (first
        | (at_next; refine wpList_next_isM rfl _ rfl mb w.heap.size rfl hrg ?_ ?_)
        | go_in)
      · intro hL0
        have hres := hidIt (Heq.out (fun k hk => (hL k).elim (fun h => absurd h (hL0 _)) (fun h => h hk)))
        go_wp2
        go_ret
        exact ⟨ret_bool hres.out.symm, hF⟩
      · intro k v w1 cnt1 hLk hmk hrg1 hlt hf1 hsz1 hen
        obtain ⟨n, rfl, rfl, hnl⟩ := bitM_int' l k v hmk
        have hF1 : Fr [] w w1 := hF.trans1 hf1 (Nat.le_refl _)
        have hm1 := mapAt_fr hm' hF1 (by simp)
        have hln : l.getD n false = true := by
          rw [bitM_int] at hmk
          by_cases h : 0 ≤ (n : Int) ∧ l.getD (n : Int).toNat false = true
          · rw [Int.toNat_natCast] at h; exact h.2
          · rw [if_neg h] at hmk; cases hmk
        have hlk := hlook w1 n hm1 (by omega)
        have Hne' : Hid (l'.getD n false = false → res = false) := hidIt (fun h => Hne.out (fun hs => by have := hs n hln; rw [h] at this; cases this))
        have hL' : Hid (l'.getD n false = true → ∀ k : Nat, (L (.int .i64 (k : Int)) ∧ (Value.int .i64 (k : Int)) ≠ .int .i64 (n : Int)) ∨ (l.getD k false = true → l'.getD k false = true)) := hidIt (fun h k => by
          rcases hL k with h1 | h1
          · by_cases hkn : k = n
            · subst hkn; exact .inr (fun _ => h)
            · exact .inl ⟨h1, fun e => hkn (by have := (Value.int.inj e).2; omega)⟩
          · exact .inr h1)
        clear hlook hL hmk hm1 hln Heq Hne
        generalize l'.getD n false = q at *
        cases q
        · go_wp2
          go_ret
          exact ⟨ret_bool (Hne'.out (by trivial)).symm, hF1⟩
        · go_wp2
          go_roundw
          case rel => exact ⟨_, _, hrg1, hL'.out (by trivial), hF1⟩
          case measure => rw [hrg1.left, hleft.out]; omega
  · have hd : decide (l = l') = false := by simp; rintro rfl; exact hcc rfl
    rw [hd]
    clear hd
    have hl1 := hlen w hm
    have hl2 := hlen' w hm'
    clear hlen hlen'
    generalize cnt l = cl at *
    generalize cnt l' = cl' at *
    go_enter Try.func41, Try.ntmps41
    go_wp2
    go_ret
    exact ⟨rfl, Fr.refl _ _⟩
set_option maxRecDepth 100000 in
set_option maxHeartbeats 1600000 in
theorem Same_like (tb mb S g tb' mb' : Nat) (l l' : List Bool) (w : World) (h : BitW w tb mb S g l) (h' : BitW w tb' mb' S g l') :
    Calls Try.prog 21 #[.pointer (some ⟨tb, 0, none⟩), .pointer (some ⟨tb', 0, none⟩)] w fun e w' => e = .returned (.bool (decide (l = l'))) ∧ Fr [] w w' := by
  have c := h.blk.cell
  have c' := h'.blk.cell
  have hl := h.len
  have hl' := h'.len
  have hle := gran_le h.size h.grain.1
  obtain ⟨es, clock, hm, hi⟩ := h.map
  obtain ⟨es', clock', hm', hi'⟩ := h'.map
  have key := Equal_calls mb mb' l l' w.drew hm hi hm' hi' (by omega) (by omega) (by omega)
  generalize decide (l = l') = q at *
  clear hl hl'
  go_enter Try.func21, Try.ntmps21
  go_wp2_with fail
  refine wp_region_still_tail 33 follows (by as_aux_lemma => kernel_rfl) ?_
  simp only [List.take_succ_cons, List.take_zero, List.drop_succ_cons, List.drop_zero]
  change wpStill _ _ (World.drew _) _ _ _
  iterate 33 still_step
  refine wpStill_nil ?_
  change wpList _ _ _ _ _ (World.drew _)
  go_wp2_with fail
  refine key.mono ?_
  rintro e w1 ⟨rfl, hf⟩
  go_wp2
  go_ret
  exact ⟨rfl, ((Fr.refl _ _).drew).trans0 hf⟩
end Go.Proofs.Ytfmolbgfhchdkaa
