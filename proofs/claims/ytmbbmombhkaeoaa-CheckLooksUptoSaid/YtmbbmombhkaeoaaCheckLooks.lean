/-
  CheckLooks.
-/
import Derived.Test.YtmbbmombhkaeoaaChkS
namespace Go.Proofs.Ytmbbmombhkaeoaa
open Go.RowKit Go.Maps
attribute [local go_sem] Oper.semAt_some

theorem clean_eq (A B C D : List Int) : ((decide (A = []) && decide (B = []) && decide (C = []) && decide (D = [])) == ((A.length : Int) + B.length + C.length + D.length == 0)) = true := by
  rw [beq_iff_eq, Bool.eq_iff_iff]
  simp only [Bool.and_eq_true, decide_eq_true_eq, beq_iff_eq, ← List.length_eq_zero_iff]
  omega
set_option maxRecDepth 100000 in
set_option maxHeartbeats 1600000 in
theorem CheckLooks_any (w : World) (v : Value) (n : List Int) (hv : SlI w v n) (hn : n.length ≤ 1048576) (u : Value) (ls : List (List Slt)) (hu : SlR w u ls) (ht : tot ls ≤ 1048576) :
    Calls Try.prog 3 #[v, u] w fun e w' => e = .returned (.bool true) ∧ Fr [] w w' := by
  have kF := few_calls v u n ls w hv hu ht
  cases hfb : fewB n ls with
  | false =>
    rw [hfb] at kF
    go_enter Try.func3, Try.ntmps3
    go_wp2_with fail
    refine kF.mono ?_
    rintro e w1 ⟨rfl, hf1⟩
    go_wp2_with fail
    refine (alive_calls _).mono ?_
    rintro e w2 ⟨rfl, hf2⟩
    go_wp2
    go_ret
    exact ⟨rfl, hf1.trans0 hf2⟩
  | true =>
    rw [hfb] at kF
    go_enter Try.func3, Try.ntmps3
    go_wp2_with fail
    refine kF.mono ?_
    rintro e w1 ⟨rfl, hf1⟩
    go_wp2_with fail
    refine (own_calls _ ls _ (hu.fr0 hf1) ht).mono ?_
    rintro e w2 ⟨x, rfl, hx, hf2⟩
    have hF2 := hf1.trans0 hf2
    go_wp2_with fail
    refine (Look_calls v x n ls _ (SlF.fr0 hv hF2) hx ht hn).mono ?_
    rintro e w3 ⟨v0, v1, v2, v3, rfl, s0, s1, s2, s3, hf3, _⟩
    have hF3 := hF2.trans0 hf3
    go_wp2_with fail
    refine (rLook_calls v u n ls _ (SlF.fr0 hv hF3) (hu.fr0 hF3) ht hn).mono ?_
    rintro e w4 ⟨y0, y1, y2, y3, rfl, t0, t1, t2, t3, hf4, _⟩
    have hF4 := hF3.trans0 hf4
    have htf := flatten_len ls
    have l0 := pickTo_len (moreB n (rcL n.length ls.flatten)) n.length
    have l1 := pickTo_len (lessB n (rcL n.length ls.flatten)) n.length
    have l2 := pickTo_len (badAt n.length ls.flatten) ls.flatten.length
    have l3 := pickTo_len (wrongAt n.length ls.flatten (len0 ls)) ls.flatten.length
    generalize pickTo (moreB n (rcL n.length ls.flatten)) n.length = A at *
    generalize pickTo (lessB n (rcL n.length ls.flatten)) n.length = B at *
    generalize pickTo (badAt n.length ls.flatten) ls.flatten.length = C at *
    generalize pickTo (wrongAt n.length ls.flatten (len0 ls)) ls.flatten.length = D at *
    have b0 : A.length ≤ 1048576 := by omega
    have b1 : B.length ≤ 1048576 := by omega
    have b2 : C.length ≤ 1048576 := by omega
    have b3 : D.length ≤ 1048576 := by omega
    obtain ⟨a0, p0, rfl, _⟩ := s0.open
    obtain ⟨a1, p1, rfl, _⟩ := s1.open
    obtain ⟨a2, p2, rfl, _⟩ := s2.open
    obtain ⟨a3, p3, rfl, _⟩ := s3.open
    obtain ⟨c0, q0, rfl, _⟩ := t0.open
    obtain ⟨c1, q1, rfl, _⟩ := t1.open
    obtain ⟨c2, q2, rfl, _⟩ := t2.open
    obtain ⟨c3, q3, rfl, _⟩ := t3.open
    replace s0 := SlF.fr0 s0 hf4
    replace s1 := SlF.fr0 s1 hf4
    replace s2 := SlF.fr0 s2 hf4
    replace s3 := SlF.fr0 s3 hf4
    have hfa := ((Fr.refl [] w4).alloc (.cells #[.slice a0 A.length p0, .slice a1 B.length p1, .slice a2 C.length p2, .slice a3 D.length p3] 27)).alloc (.cells #[.slice c0 A.length q0, .slice c1 B.length q1, .slice c2 C.length q2, .slice c3 D.length q3] 31)
    have Br : Blk ((w4.alloc (.cells #[.slice a0 A.length p0, .slice a1 B.length p1, .slice a2 C.length p2, .slice a3 D.length p3] 27)).alloc (.cells #[.slice c0 A.length q0, .slice c1 B.length q1, .slice c2 C.length q2, .slice c3 D.length q3] 31)) w4.heap.size [.slice a0 A.length p0, .slice a1 B.length p1, .slice a2 C.length p2, .slice a3 D.length p3] 27 := (Blk.new w4 [_, _, _, _] _).alloc _
    have Bs : Blk ((w4.alloc (.cells #[.slice a0 A.length p0, .slice a1 B.length p1, .slice a2 C.length p2, .slice a3 D.length p3] 27)).alloc (.cells #[.slice c0 A.length q0, .slice c1 B.length q1, .slice c2 C.length q2, .slice c3 D.length q3] 31)) (w4.heap.size + 1) [.slice c0 A.length q0, .slice c1 B.length q1, .slice c2 C.length q2, .slice c3 D.length q3] 31 := Blk.new' (by simp) [_, _, _, _] _
    go_wp2_with fail
    refine (alive_calls _).mono ?_
    rintro e X ⟨rfl, hX⟩
    replace Br := Br.fr0 hX
    replace Bs := Bs.fr0 hX
    have hw := (hF4.trans0 hfa).trans0 hX
    replace hX := hfa.trans0 hX
    have r1 := Br.cell
    have r2 := Bs.cell
    go_wp2_with fail
    refine (SameI_calls _ _ A _ (SlF.fr0 s0 hX) (SlF.fr0 t0 hX)).mono ?_
    rintro e X1 ⟨rfl, h1⟩
    clear r1 r2
    have r1 := (Br.fr0 h1).cell
    have r2 := (Bs.fr0 h1).cell
    go_wp2_with fail
    refine (SameI_calls _ _ B _ (SlF.fr0 s1 (hX.trans0 h1)) (SlF.fr0 t1 (hX.trans0 h1))).mono ?_
    rintro e X2 ⟨rfl, h2⟩
    replace h1 := h1.trans0 h2
    clear r1 r2 h2
    have r1 := (Br.fr0 h1).cell
    have r2 := (Bs.fr0 h1).cell
    go_wp2_with fail
    refine (SameI_calls _ _ C _ (SlF.fr0 s2 (hX.trans0 h1)) (SlF.fr0 t2 (hX.trans0 h1))).mono ?_
    rintro e X3 ⟨rfl, h2⟩
    replace h1 := h1.trans0 h2
    clear r1 r2 h2
    have r1 := (Br.fr0 h1).cell
    have r2 := (Bs.fr0 h1).cell
    go_wp2_with fail
    refine (SameI_calls _ _ D _ (SlF.fr0 s3 (hX.trans0 h1)) (SlF.fr0 t3 (hX.trans0 h1))).mono ?_
    rintro e X4 ⟨rfl, h2⟩
    replace h1 := h1.trans0 h2
    clear r1 r2 h2
    have r1 := (Br.fr0 h1).cell
    have hX4 := hX.trans0 h1
    go_wp2_with fail
    refine (Clean_calls _ _ _ _ A B C D _ (SlF.fr0 s0 hX4) (SlF.fr0 s1 hX4) (SlF.fr0 s2 hX4) (SlF.fr0 s3 hX4) (by omega) (by omega) (by omega) (by omega)).mono ?_
    rintro e X5 ⟨rfl, h5⟩
    have hw5 := (hw.trans0 h1).trans0 h5
    go_wp2
    go_ret
    refine ⟨ret_bool ?_, hw5⟩
    exact clean_eq A B C D
end Go.Proofs.Ytmbbmombhkaeoaa
