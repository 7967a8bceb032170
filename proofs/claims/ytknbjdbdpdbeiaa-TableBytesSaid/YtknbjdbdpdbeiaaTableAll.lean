/-
  TableAll: the walk.
-/
import Derived.Test.YtknbjdbdpdbeiaaLaw08
namespace Go.Proofs.Ytknbjdbdpdbeiaa
open Go.RowKit Go.Maps
attribute [local go_sem high] equalSlot0 equalSlotR0

/-- the slots when so many calls are over -/
def tRun (l : List Slt) (os : List Opr) : List Slt := os.foldl (fun l o => (tDo l o).1) l
theorem tRun_succ {l : List Slt} {os : List Opr} {k : Nat} (h : k < os.length) : tRun l (os.take (k + 1)) = (tDo (tRun l (os.take k)) (os.getD k zO)).1 := by
  have hg : os[k] = os.getD k zO := by rw [List.getD_eq_getElem?_getD, List.getElem?_eq_getElem h]; rfl
  unfold tRun
  rw [List.take_succ_eq_append_getElem h, hg, List.foldl_append]
  rfl
theorem tRun_len {l : List Slt} (h : l.length ≤ 256) : ∀ os : List Opr, (tRun l os).length ≤ 256 := by
  intro os
  unfold tRun
  induction os generalizing l with
  | nil => exact h
  | cons o os ih => exact ih (tDo_len h)
theorem alive_any (w : World) : Calls Try.prog 12 #[] w fun e w' => e = .returned (.bool true) ∧ Fr [] w w' := alive_calls w

set_option maxRecDepth 100000 in
set_option maxHeartbeats 800000 in
theorem TableAll_no (n : Int) (vs : Value) (w : World) (h : okSize n = false) : Calls Try.prog 3 #[.int .i64 n, vs] w fun e w' => e = .returned (.bool true) ∧ Fr [] w w' := by
  go_enter Try.func3, Try.ntmps3
  go_wp2_with (first | (go_at_call 10; refine (New_no _ _ h).mono ?_; rintro e w' ⟨rfl, rfl⟩) | (go_at_call 11; refine (rNew_no _ _ h).mono ?_; rintro e w' ⟨rfl, rfl⟩) | (go_at_call 12; refine (alive_calls _).mono ?_; rintro e w1 ⟨rfl, hf⟩))
  go_ret
  exact ⟨rfl, hf⟩
set_option maxRecDepth 100000 in
set_option maxHeartbeats 3200000 in
theorem TableAll_yes (n : Nat) (vs : Value) (os : List Opr) (w : World) (hn : n ≤ 256) (hs : SlO w vs os) : Calls Try.prog 3 #[.int .i64 (n : Int), vs] w fun e w' => e = .returned (.bool true) ∧ Fr [] w w' := by
  have hok : okSize (n : Int) = true := by simp [okSize]; omega
  obtain ⟨a, cap, rfl, hlc, hcm, _⟩ := hs.open
  unfold maxLen at hcm
  by_cases h100 : 100 < os.length
  · go_enter Try.func3, Try.ntmps3
    go_wp2_with (first | (go_at_call 10; refine (New_yes _ _ hok).mono ?_; rintro e w1 ⟨tb, mb, rfl, ht, hm, hT, hF⟩) | (go_at_call 11; refine (rNew_yes _ _ hn).mono ?_; rintro e w2 ⟨v, rfl, hown, hf⟩; replace hF := hF.trans0 hf; clear hf) | (go_at_call 12; refine (alive_calls _).mono ?_; rintro e w3 ⟨rfl, hf3⟩))
    go_ret
    exact ⟨rfl, hF.trans0 hf3⟩
  · have h100' : os.length ≤ 100 := by omega
    clear h100
    go_enter Try.func3, Try.ntmps3
    go_wp2_with (first | (go_at_call 10; refine (New_yes _ _ hok).mono ?_; rintro e w1 ⟨tb, mb, rfl, ht, hm, hT, hF⟩) | (go_at_call 11; refine (rNew_yes _ _ hn).mono ?_; rintro e w2 ⟨v, rfl, hown, hf⟩; replace hT := hT.fr0 hf; replace hF := hF.trans0 hf; clear hf))
    have hl0 : (List.replicate n zS).length = n := by simp
    have hsl : SlS w2 v (List.replicate n zS) := by
      refine SlF.of_owns (base := w1.heap.size) (e := 32) (size := 3) ?_
      rw [hl0]
      exact hown
    replace hT : TabW w2 tb mb (List.replicate n zS) := hT
    clear hown
    go_loopw [7, 59] (fun u i wr => ∃ k : Nat, k ≤ os.length ∧ i = .int .i64 k ∧ SlS wr u (tRun (List.replicate n zS) (os.take k)) ∧ TabW wr tb mb (tRun (List.replicate n zS) (os.take k)) ∧ Fr [] w wr) (fun _ i _ => os.length - (intOf i).toNat)
    case atStart => exact ⟨0, Nat.zero_le _, rfl, hsl, hT, hF⟩
    case round =>
      clear hT hF hsl
      obtain ⟨k, hk, rfl, hsl, hT, hF⟩ := hrel
      by_cases hlt : k < os.length
      · obtain ⟨b, off, rfl, hb, c0, c1, c2, c3, c4⟩ := SlO.at (hs.fr0 hF) hlt
        have Hst := hidIt (tRun_succ (l := List.replicate n zS) hlt)
        generalize tRun (List.replicate n zS) (os.take k) = l at *
        generalize os.getD k zO = o at *
        obtain ⟨q, c, kk, hh, ow⟩ := o
        simp only at c0 c1 c2 c3 c4
        have hlen := hT.len
        go_wp2_with fail
        refine (rDo_calls u7 l q c kk hh ow _ (hsl.fr0 ((Fr.refl _ _).alloc _)) hlen).mono ?_
        rintro e w3 ⟨u1, u2, rfl, hs1, hs2, hf⟩
        have B10 : Blk w3 wr.heap.size [.int .i64 q, .int .i64 c, .int .i64 kk, .int .i64 hh, .bool ow] 34 := (Blk.new wr [_, _, _, _, _] _).fr0 hf
        replace hF := (hF.alloc _).trans0 hf
        replace hT := hT.fr0 (((Fr.refl _ _).alloc _).trans0 hf)
        have d10 := B10.cell
        clear hf c0 c1 c2 c3 c4 hsl hb
        go_wp2_with fail
        refine (does_calls tb mb l q c kk hh ow _ hT).mono ?_
        rintro e w4 ⟨u3, rfl, hs3, hT4, hf⟩
        replace hF := hF.trans hf (fun x hx hl => by simp at hx; omega)
        replace hs1 := hs1.frT hT hf
        replace hs2 := hs2.frT hT hf
        clear hf hT B10 d10
        generalize tDo l (q, c, kk, hh, ow) = r at *
        obtain ⟨r1, r2, r3⟩ := r
        simp only at *
        go_wp2_with fail
        refine (Same_calls u3 u2 r2 _ hs3 hs2).mono ?_
        rintro e w5 ⟨rfl, hf⟩
        replace hs1 := hs1.fr0 hf
        replace hT4 := hT4.fr0 hf
        replace hF := hF.trans0 hf
        clear hf hs2 hs3
        go_wp2_with fail
        refine (all_calls tb mb r1 _ hT4).mono ?_
        rintro e w6 ⟨u4', rfl, hown, hf⟩
        replace hs1 := hs1.fr0 hf
        replace hT4 := hT4.fr0 hf
        replace hF := hF.trans0 hf
        have hs4 : SlS w6 u4' r1 := SlF.of_owns hown
        clear hf hown
        go_wp2_with fail
        refine (Same_calls u4' u1 r1 _ hs4 hs1).mono ?_
        rintro e w7 ⟨rfl, hf⟩
        replace hs1 := hs1.fr0 hf
        replace hT4 := hT4.fr0 hf
        replace hF := hF.trans0 hf
        clear hf hs4
        go_wp2_with fail
        refine (Groups_calls tb mb r1 _ hT4).mono ?_
        rintro e w' ⟨rfl, rfl⟩
        go_wp2_with fail
        refine (rGroups_calls u1 r1 _ hs1).mono ?_
        rintro e w8 ⟨rfl, hf⟩
        replace hs1 := hs1.fr0 hf
        replace hT4 := hT4.fr0 hf
        replace hF := hF.trans0 hf
        clear hf
        go_wp2
        go_roundw
        case rel => exact ⟨k + 1, by omega, by go_num, by rw [Hst.out]; exact hs1, by rw [Hst.out]; exact hT4, hF⟩
        case measure => simp [intOf]; omega
      · have hge : os.length ≤ k := by omega
        generalize tRun (List.replicate n zS) (os.take k) = l at *
        have Hg1 : Hid (tget l (-1) = (0, 0, false)) := tget_out (by omega)
        have Hg2 : Hid (tget l l.length = (0, 0, false)) := tget_out (by omega)
        go_wp2_with fail
        refine (alive_calls _).mono ?_
        rintro e w3 ⟨rfl, hf⟩
        replace hT := hT.fr0 hf
        replace hF := hF.trans0 hf
        clear hf
        go_wp2_with fail
        refine (Get_calls tb mb l _ _ hT).mono ?_
        rintro e w4 ⟨rfl, hf⟩
        rw [Hg1.out]
        replace hT := hT.fr0 hf
        replace hF := hF.trans0 hf
        clear hf
        have e0 := sEq_0
        go_wp2_with (go_at_call 20; refine (Len_calls _ _ _ _ hT).mono ?_; rintro e w' ⟨rfl, rfl⟩)
        refine (Get_calls tb mb l _ _ hT).mono ?_
        rintro e w5 ⟨rfl, hf⟩
        rw [Hg2.out]
        replace hF := hF.trans0 hf
        clear hf
        go_wp2
        go_ret
        exact ⟨rfl, hF⟩
end Go.Proofs.Ytknbjdbdpdbeiaa
