/-
  TableSets: the walk.
-/
import Derived.Test.YtknbjdbdpdbeiaaTableAll
import Derived.Test.YtknbjdbdpdbeiaaOpen
import Derived.Deep.QuietTactic
import Derived.BigQuiet
namespace Go.Proofs.Ytknbjdbdpdbeiaa
open Go.RowKit Go.Maps
attribute [local go_sem high] equalSlot0 equalSlotR0

set_option maxRecDepth 100000 in
set_option maxHeartbeats 800000 in
theorem TableSets_no (n : Int) (vs : Value) (q c k h : Int) (o : Bool) (w : World) (hn : okSize n = false) : Calls Try.prog 4 #[.int .i64 n, vs, opV (q, c, k, h, o)] w fun e w' => e = .returned (.bool true) ∧ Fr [] w w' := by
  go_enter Try.func4, Try.ntmps4
  go_wp2_with (first | (go_at_call 10; refine (New_no _ _ hn).mono ?_; rintro e w' ⟨rfl, rfl⟩) | (go_at_call 12; refine (alive_calls _).mono ?_; rintro e w1 ⟨rfl, hf⟩))
  go_ret
  exact ⟨rfl, ((Fr.refl _ w).alloc _).trans0 hf⟩
theorem set_back {l : List Slt} {i : Nat} (h : i < l.length) (s : Slt) : (l.set i s).set i (l.getD i zS) = l := by
  rw [List.set_set, List.getD_eq_getElem?_getD, List.getElem?_eq_getElem h]
  simp
set_option maxRecDepth 100000 in
set_option maxHeartbeats 3200000 in
theorem TableSets_yes (n : Nat) (vs : Value) (os : List Opr) (q c kk hh : Int) (ow : Bool) (w : World) (hn : n ≤ 256) (hs : SlO w vs os) :
    Calls Try.prog 4 #[.int .i64 (n : Int), vs, opV (q, c, kk, hh, ow)] w fun e w' => e = .returned (.bool true) ∧ Fr [] w w' := by
  have hok : okSize (n : Int) = true := by simp [okSize]; omega
  obtain ⟨a, cap, rfl, hlc, hcm, _⟩ := hs.open
  unfold maxLen at hcm
  by_cases h100 : 100 < os.length
  · go_enter Try.func4, Try.ntmps4
    go_wp2_with (first | (go_at_call 10; refine (New_yes _ _ hok).mono ?_; rintro e w1 ⟨tb, mb, rfl, ht, hm, hT, hF⟩) | (go_at_call 12; refine (alive_calls _).mono ?_; rintro e w3 ⟨rfl, hf3⟩))
    go_ret
    exact ⟨rfl, (((Fr.refl _ w).alloc _).trans0 hF).trans0 hf3⟩
  · have h100' : os.length ≤ 100 := by omega
    clear h100
    go_enter Try.func4, Try.ntmps4
    go_wp2_with fail
    refine (New_yes _ _ hok).mono ?_
    rintro e w1 ⟨tb, mb, rfl, ht, hm, hT, hf⟩
    have B5 : Blk w1 w.heap.size [.int .i64 q, .int .i64 c, .int .i64 kk, .int .i64 hh, .bool ow] 34 := (Blk.new w [_, _, _, _, _] _).fr0 hf
    have hF := ((Fr.refl [] w).alloc (.cells #[.int .i64 q, .int .i64 c, .int .i64 kk, .int .i64 hh, .bool ow] 34)).trans0 hf
    simp only [World.size_alloc] at ht hm
    clear hf
    go_wp2_with fail
    replace hT : TabW w1 tb mb (List.replicate n zS) := hT
    go_loopw [34] (fun i wr => ∃ k : Nat, k ≤ os.length ∧ i = .int .i64 k ∧ TabW wr tb mb (tRun (List.replicate n zS) (os.take k)) ∧ Blk wr w.heap.size [.int .i64 q, .int .i64 c, .int .i64 kk, .int .i64 hh, .bool ow] 34 ∧ Fr [] w wr) (fun i _ => os.length - (intOf i).toNat)
    case atStart => exact ⟨0, Nat.zero_le _, rfl, hT, B5, hF⟩
    case round =>
      clear hT hF B5
      obtain ⟨k, hk, rfl, hT, B5, hF⟩ := hrel
      by_cases hlt : k < os.length
      · obtain ⟨b, off, rfl, hb, c0, c1, c2, c3, c4⟩ := SlO.at (hs.fr0 hF) hlt
        have Hst := hidIt (tRun_succ (l := List.replicate n zS) hlt)
        generalize tRun (List.replicate n zS) (os.take k) = l at *
        generalize os.getD k zO = o at *
        obtain ⟨q', c', k', h', o'⟩ := o
        simp only at c0 c1 c2 c3 c4
        go_wp2_with fail
        refine (does_calls tb mb l q' c' k' h' o' _ (hT.fr0 ((Fr.refl _ _).alloc _))).mono ?_
        rintro e w4 ⟨u3, rfl, hs3, hT4, hf⟩
        replace B5 := (B5.alloc (.cells #[.int .i64 q', .int .i64 c', .int .i64 k', .int .i64 h', .bool o'] 34)).fr hf (by simp; omega)
        replace hF := (hF.alloc (.cells #[.int .i64 q', .int .i64 c', .int .i64 k', .int .i64 h', .bool o'] 34)).trans hf (fun x hx hl => by simp at hx; omega)
        go_wp2
        go_roundw
        case rel => exact ⟨k + 1, by omega, by go_num, by rw [Hst.out]; exact hT4, B5, hF⟩
        case measure => simp [intOf]; omega
      · have hge : os.length ≤ k := by omega
        generalize tRun (List.replicate n zS) (os.take k) = l at *
        have hlen := hT.len
        have c5 := B5.cell
        go_wp2_with fail
        refine (all_calls tb mb l _ hT).mono ?_
        rintro e w2 ⟨u1, rfl, hown1, hf⟩
        have hs1 : SlS w2 u1 l := SlF.of_owns hown1
        clear hown1
        replace B5 := B5.fr0 hf
        have c5 := B5.cell
        have l5 := B5.lt
        have f5 := B5.frozen
        replace hT := hT.fr0 hf
        replace hF := hF.trans0 hf
        clear hf
        by_cases hset : 0 ≤ c ∧ c < l.length ∧ rightS (kk, hh, ow) = true
        · obtain ⟨i, rfl⟩ : ∃ i : Nat, c = (i : Int) := ⟨c.toNat, by omega⟩
          have hi : i < l.length := by omega
          obtain ⟨si, Hsi⟩ : ∃ si, Hid (l.getD i zS = si) := ⟨_, hidIt rfl⟩
          have Hset : Hid (tSet l (i : Int) (kk, hh, ow) = (l.set i (kk, hh, ow), si, 0)) := hidIt (by unfold tSet; rw [if_pos hset, tget_nat, Hsi.out]; rfl)
          go_wp2_with fail
          refine (Set_calls tb mb l i kk hh ow _ hT).mono ?_
          rintro e w3 ⟨rfl, hT3, hf⟩
          rw [Hset.out] at hT3 ⊢
          simp only at hT3 ⊢
          replace hs1 := hs1.frT hT (hf.mono (fun x hx _ => List.mem_cons_of_mem _ hx))
          replace B5 := B5.fr hf (by simp; omega)
          have c5 := B5.cell
          have l5 := B5.lt
          have f5 := B5.frozen
          replace hF := hF.trans hf (fun x hx hl => by simp at hx; omega)
          clear hf hT
          have hgi : (l.set i (kk, hh, ow)).getD i zS = (kk, hh, ow) := by rw [getD_set _ _ _ _ hi, if_pos rfl]
          have Hback : Hid ((l.set i (kk, hh, ow)).set i si = l) := hidIt (by rw [← Hsi.out]; exact set_back hi (kk, hh, ow))
          have hlenset : (l.set i (kk, hh, ow)).length = l.length := by simp
          go_wp2_with fail
          refine (all_calls tb mb (l.set i (kk, hh, ow)) _ (hT3.fr0 ((Fr.refl _ _).alloc _))).mono ?_
          rintro e w4 ⟨u2, rfl, hown2, hf⟩
          have B12 : Blk w4 w3.heap.size (slotC (si)) 43 := (Blk.new w3 [_, _, _] _).fr0 hf
          have hff := ((Fr.refl [] w3).alloc (.cells #[.int .i64 (si).1, .int .i64 (si).2.1, .bool (si).2.2] 43)).trans0 hf
          replace hF := hF.trans0 hff
          have hs13 := hs1
          replace B5 := B5.fr0 hff
          have c5 := B5.cell
          have l5 := B5.lt
          have f5 := B5.frozen
          replace hs1 := hs1.fr0 hff
          have c12 := B12.cell
          have hsz3 := hF.size
          clear hf hff hT3
          rw [hlenset] at hown2
          obtain ⟨g, cap2, rfl, hgb, hgc⟩ := owns_succ hown2 (by omega)
          obtain ⟨a1, cap1, rfl, hlc1, hcm1, _⟩ := hs1.open
          unfold maxLen at hcm1
          obtain ⟨b1, off1, rfl, hb1, d0, d1, d2⟩ := SlS.at hs1 hi
          obtain ⟨b1', off1', hb1e, hb13, _⟩ := SlS.at hs13 hi
          cases hb1e
          clear hs13
          simp only [World.size_alloc] at hgb
          rw [Hsi.out] at d0 d1 d2
          have hgi' : i < (l.set i (kk, hh, ow)).length := by omega
          have hcells := owns_at3 hown2 hgi'
          rw [hgi] at hcells
          obtain ⟨⟨e0, e1, e2⟩, fz⟩ := hcells
          have hi0 : (0 : Int) ≤ i := by omega
          have hil : (i : Int) < l.length := by omega
          have hE1 := sEq_self (si)
          have hE2 := sEq_self (kk, hh, ow)
          go_wp2_with fail
          go_quiet (fail)
          go_wp2_with fail
          refine wp_region_still_tail 9 follows (by as_aux_lemma => kernel_rfl) ?_
          simp only [List.take_succ_cons, List.take_zero, List.drop_succ_cons, List.drop_zero]
          change wpStill _ _ (World.drew _) _ _ _
          iterate 9 still_step
          refine wpStill_nil ?_
          change wpList _ _ _ _ _ (World.drew _)
          go_wp2_with fail
          have hset4 := Fr.set3' (w4.drewN (nq + 1)) g (i * 3) (i * 3 + 1) (i * 3 + 2) (.int .i64 si.1) (.int .i64 si.2.1) (.bool si.2.2)
          have hown5 := owns_put3 (owns_drewN hown2 (nq + 1)) hlenset i hi si
          rw [Hback.out] at hown5
          generalize (((w4.drewN (nq + 1)).setCell ⟨g, i * 3, none⟩ (.int .i64 si.1)).setCell ⟨g, i * 3 + 1, none⟩ (.int .i64 si.2.1)).setCell ⟨g, i * 3 + 2, none⟩ (.bool si.2.2) = w5 at *
          have hs2 : SlS w5 (.slice (some ⟨g, 0, none⟩) l.length cap2) l := SlF.of_owns hown5
          replace hs1 : SlS w5 (.slice (some ⟨b1, off1, none⟩) l.length cap1) l := (Sl.drewN hs1 (nq + 1)).fr hset4 (fun x hx => by cases hx; simp; omega)
          replace hF := (hF.drewN (nq + 1)).trans1 hset4 (by omega)
          clear hset4 hown5 hown2
          refine (alive_calls _).mono ?_
          rintro e w6 ⟨rfl, hf⟩
          replace hs1 := hs1.fr0 hf
          replace hs2 := hs2.fr0 hf
          replace hF := hF.trans0 hf
          clear hf
          go_wp2_with fail
          refine (Same_calls _ _ l _ hs2 hs1).mono ?_
          rintro e w7 ⟨rfl, hf⟩
          replace hF := hF.trans0 hf
          go_wp2
          go_ret
          exact ⟨rfl, hF⟩
        · have Hset : Hid (tSet l c (kk, hh, ow) = (l, zS, 1)) := hidIt (by unfold tSet; rw [if_neg hset])
          go_wp2_with fail
          refine (Set_calls tb mb l c kk hh ow _ hT).mono ?_
          rintro e w3 ⟨rfl, hT3, hf⟩
          rw [Hset.out] at hT3 ⊢
          simp only at hT3 ⊢
          replace hs1 := hs1.frT hT (hf.mono (fun x hx _ => List.mem_cons_of_mem _ hx))
          replace B5 := B5.fr hf (by simp; omega)
          have c5 := B5.cell
          have l5 := B5.lt
          have f5 := B5.frozen
          replace hF := hF.trans hf (fun x hx hl => by simp at hx; omega)
          clear hf hT
          have e0 : zS = (0, 0, false) := rfl
          rw [e0]
          go_wp2_with fail
          refine (all_calls tb mb l _ (hT3.fr0 ((Fr.refl _ _).alloc _))).mono ?_
          rintro e w4 ⟨u2, rfl, hown2, hf⟩
          have hs2 : SlS w4 u2 l := SlF.of_owns hown2
          replace hF := (hF.alloc (.cells #[.int .i64 0, .int .i64 0, .bool false] 43)).trans0 hf
          replace hs1 := hs1.fr0 (((Fr.refl _ _).alloc _).trans0 hf)
          clear hf
          go_wp2_with fail
          refine (alive_calls _).mono ?_
          rintro e w5 ⟨rfl, hf⟩
          replace hs1 := hs1.fr0 hf
          replace hs2 := hs2.fr0 hf
          replace hF := hF.trans0 hf
          clear hf
          go_wp2_with fail
          refine (Same_calls u2 u1 l _ hs2 hs1).mono ?_
          rintro e w6 ⟨rfl, hf⟩
          replace hF := hF.trans0 hf
          go_wp2
          go_ret
          exact ⟨rfl, hF⟩
end Go.Proofs.Ytknbjdbdpdbeiaa
namespace Go.Proofs.Ytknbjdbdpdbeiaa
open Go.RowKit
theorem TableSets_any (w : World) (n : Int) (_ : wfI n) (vs : Value) (os : List Opr) (hs : SlO w vs os) (_ : ∀ x ∈ os, wfO x) (o : Opr) (_ : wfO o) :
    Calls Try.prog 4 #[.int .i64 n, vs, opV o] w fun e w' => e = .returned (.bool true) ∧ Fr [] w w' := by
  obtain ⟨q, c, k, h, ow⟩ := o
  by_cases hok : okSize n = true
  · obtain ⟨k, rfl⟩ : ∃ k : Nat, n = (k : Int) := ⟨n.toNat, by simp [okSize] at hok; omega⟩
    exact TableSets_yes k vs os q c _ h ow w (by simp [okSize] at hok; omega) hs
  · exact TableSets_no n vs q c k h ow w (by simpa using hok)
end Go.Proofs.Ytknbjdbdpdbeiaa
