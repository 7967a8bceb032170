/-
  law09.alive.
-/
import Derived.Test.YtkammkbjkojfmaaSpOv
import Derived.Test.YtkammkbjkojfmaaExtEq
import Derived.Test.YtkammkbjkojfmaaHeld
namespace Go.Proofs.Ytkammkbjkojfmaa
open Go.RowKit Go.Maps
attribute [local go_sem high] equalExt0

set_option maxRecDepth 100000 in
set_option maxHeartbeats 1600000 in
theorem aliveL_calls (w : World) : Calls Try.prog 12 #[] w fun e w' => e = .returned (.bool true) ∧ Fr [] w w' := by
  have e1 : ofE [1, 1, 0, 2] = [(0, 2, 1), (2, 1, 0), (3, 1, 2)] := by decide
  have e2 : ofE [0, 1, 0] = [(0, 1, 0), (1, 1, 1), (2, 1, 0)] := by decide
  have e3 : ofE [2, 2] = [(0, 2, 2)] := by decide
  have e4 : overE [(0, 1, 0), (1, 1, 1), (2, 1, 0)] [(0, 2, 2)] = [(0, 1, 2), (1, 1, 1), (2, 1, 0)] := by decide
  have e5 : atK [(0, 2, 1), (2, 1, 0), (3, 1, 2)] 3 = 2 := by decide
  have e6 : atB [(0, 2, 1), (2, 1, 0), (3, 1, 2)] 3 = true := by decide
  have e7 : ((kindsE [(0, 2, 1), (2, 1, 0), (3, 1, 2)]).length : Int) = 4 := by decide
  have e8 : (countK (kindsE [(0, 1, 2), (1, 1, 1), (2, 1, 0)]) 2 : Int) = 1 := by decide
  have k1 := fun v w hv => OfOwn_calls v [1, 1, 0, 2] w hv (by decide)
  have k2 := fun v w hv => OfOwn_calls v [0, 1, 0] w hv (by decide)
  have k3 := fun v w hv => OfOwn_calls v [2, 2] w hv (by decide)
  have k4 := fun v u w hv hu h1 h2 => sOver_calls v u [(0, 1, 0), (1, 1, 1), (2, 1, 0)] [(0, 2, 2)] w hv hu h1 h2
  have k5 := fun v w hv => sAt_calls v [(0, 2, 1), (2, 1, 0), (3, 1, 2)] 3 w hv
  have k6 := fun v w hv => sLong_calls v [(0, 2, 1), (2, 1, 0), (3, 1, 2)] w hv
  have k7 := fun v w hv => sTotal_calls v [(0, 1, 2), (1, 1, 1), (2, 1, 0)] 2 w hv
  rw [e1] at k1
  rw [e2] at k2
  rw [e3] at k3
  rw [e4] at k4
  rw [e5, e6] at k5
  rw [e7] at k6
  rw [e8] at k7
  clear e1 e2 e3 e4 e5 e6 e7 e8
  go_enter Try.func12, Try.ntmps12
  go_wp2_with fail
  have s1 : SlI (w.alloc (.cells #[.int .i64 1, .int .i64 1, .int .i64 0, .int .i64 2] 3)) (.slice (some ⟨w.heap.size, 0, none⟩) 4 4) [1, 1, 0, 2] := SlF.of_owns (base := w.heap.size) (e := 3) (size := 1) (World.ownsRow_lit w #[.int .i64 1, .int .i64 1, .int .i64 0, .int .i64 2] 4 (Nat.le_refl _) (by decide) rfl)
  refine (k1 _ _ s1).mono ?_
  rintro e w1 ⟨v1, rfl, o1, hf1⟩
  have hF1 := ((Fr.refl [] w).alloc _).trans0 hf1
  clear s1 hf1 k1
  have s2 : SlI (w1.alloc (.cells #[.int .i64 0, .int .i64 1, .int .i64 0] 3)) (.slice (some ⟨w1.heap.size, 0, none⟩) 3 3) [0, 1, 0] := SlF.of_owns (base := w1.heap.size) (e := 3) (size := 1) (World.ownsRow_lit w1 #[.int .i64 0, .int .i64 1, .int .i64 0] 3 (Nat.le_refl _) (by decide) rfl)
  obtain ⟨a1, c1, rfl, _, _, _⟩ := Sl.of_owns o1
  have l1 : SlP w1 (.slice a1 3 c1) [(0, 2, 1), (2, 1, 0), (3, 1, 2)] := SlF.of_owns o1
  clear o1
  go_wp2_with fail
  refine (k2 _ _ s2).mono ?_
  rintro e w2 ⟨v2, rfl, o2, hf2⟩
  have hF2 := (hF1.alloc _).trans0 hf2
  have l12 := SlF.fr0 (l1.fr0 ((Fr.refl _ _).alloc _)) hf2
  obtain ⟨a2, c2, rfl, _, _, _⟩ := Sl.of_owns o2
  have ok2 := okV.of_owns o2
  have l2 : SlP w2 (.slice a2 3 c2) [(0, 1, 0), (1, 1, 1), (2, 1, 0)] := SlF.of_owns o2
  clear o2 hf2 hF1 l1 s2 k2
  have s3 : SlI (w2.alloc (.cells #[.int .i64 2, .int .i64 2] 3)) (.slice (some ⟨w2.heap.size, 0, none⟩) 2 2) [2, 2] := SlF.of_owns (base := w2.heap.size) (e := 3) (size := 1) (World.ownsRow_lit w2 #[.int .i64 2, .int .i64 2] 2 (Nat.le_refl _) (by decide) rfl)
  go_wp2_with fail
  refine (k3 _ _ s3).mono ?_
  rintro e w3 ⟨v3, rfl, o3, hf3⟩
  have hF3 := (hF2.alloc _).trans0 hf3
  have l13 := SlF.fr0 (l12.fr0 ((Fr.refl _ _).alloc _)) hf3
  have l23 := SlF.fr0 (l2.fr0 ((Fr.refl _ _).alloc _)) hf3
  obtain ⟨a3, c3, rfl, _, _, _⟩ := Sl.of_owns o3
  have ok3 := okV.of_owns o3
  have l3 : SlP w3 (.slice a3 1 c3) [(0, 2, 2)] := SlF.of_owns o3
  clear o3 hf3 hF2 l12 l2 s3 k3
  go_wp2_with fail
  refine (k4 _ _ _ l23 l3 ok2 ok3).mono ?_
  rintro e w4 ⟨v4, rfl, o4, hf4⟩
  have hF4 := hF3.trans0 hf4
  have l14 := l13.fr0 hf4
  obtain ⟨a4, c4, rfl, _, _, _⟩ := Sl.of_owns o4
  have l4 : SlP w4 (.slice a4 3 c4) [(0, 1, 2), (1, 1, 1), (2, 1, 0)] := SlF.of_owns o4
  clear o4 hf4 hF3 l13 l23 l3 k4 ok2 ok3
  go_wp2_with fail
  refine (k5 _ _ l14).mono ?_
  rintro e w5 ⟨rfl, hf5⟩
  have hF5 := hF4.trans0 hf5
  have l15 := l14.fr0 hf5
  have l45 := l4.fr0 hf5
  clear hf5 hF4 l14 l4 k5
  obtain ⟨b1, off1, rfl, hb1, d0, d1, d2⟩ := SlP.at l15 (i := 0) (by decide)
  obtain ⟨b4, off4, rfl, hb4, g0, g1, g2⟩ := SlP.at l45 (i := 1) (by decide)
  simp only [List.getD_cons_zero, List.getD_cons_succ, Nat.zero_mul, Nat.add_zero] at d0 d1 d2 g0 g1 g2
  go_wp2_with fail
  refine (k6 _ _ l15).mono ?_
  rintro e w6 ⟨rfl, hf6⟩
  have hF6 := hF5.trans0 hf6
  have l46 := l45.fr0 hf6
  have g06 := (World.cell?_of_block (hf6.block b4 hb4 (by simp))).trans g0
  have g16 := (World.cell?_of_block (hf6.block b4 hb4 (by simp))).trans g1
  have g26 := (World.cell?_of_block (hf6.block b4 hb4 (by simp))).trans g2
  go_wp2_with fail
  refine (k7 _ _ l46).mono ?_
  rintro e w7 ⟨rfl, hf7⟩
  go_wp2
  go_ret
  exact ⟨rfl, hF6.trans0 hf7⟩
end Go.Proofs.Ytkammkbjkojfmaa
