/-
  ref06: Encode, All.
-/
import Derived.Test.YtknbjdbdpdbeiaaOctN
import Derived.Test.YtknbjdbdpdbeiaaOctS
import Derived.Test.YtknbjdbdpdbeiaaRef08
namespace Go.Proofs.Ytknbjdbdpdbeiaa
open Go.RowKit Go.Maps

set_option maxRecDepth 100000 in
theorem rEncode_calls (s : Slt) (hr : rightS s = true) (w : World) : Calls Try.prog 69 #[.agg #[.int .i64 s.1, .int .i64 s.2.1, .bool s.2.2]] w fun e w' => e = .returned (.tuple #[strL (slY s), .int .i64 0]) ∧ Fr [] w w' := by
  obtain ⟨p, q, r⟩ := s
  have key := fun w => rRight_calls p q r w
  rw [hr] at key
  obtain ⟨a, b, rfl, rfl, ha, hb⟩ := right_bounds hr
  have B := Blk.new w [.int .i64 (a : Int), .int .i64 (b : Int), .bool r] 32
  have hfa := (Fr.refl [] w).alloc (.cells #[.int .i64 (a : Int), .int .i64 (b : Int), .bool r] 32)
  go_enter Try.func69, Try.ntmps69
  go_wp2_with fail
  refine (key _).mono ?_
  rintro e w1 ⟨rfl, hf1⟩
  have hf := hfa.trans0 hf1
  have c := (B.fr0 hf1).cell
  cases r with
  | true =>
    have kN := rNum_calls 4 (8 * b + a + 4) (by omega) (by omega) w1
    have e1 : slN ((a : Int), (b : Int), true) = 8 * b + a + 4 := by simp [slN]; omega
    rw [show ((8 * b + a + 4 : Nat) : Int) = 8 * (b : Int) + a + 4 by omega] at kN
    go_wp2_with fail
    refine kN.mono ?_
    rintro e w2 ⟨rfl, hf2⟩
    go_wp2
    go_ret2
    exact ⟨by unfold slY; rw [e1]; rfl, hf.trans0 hf2⟩
  | false =>
    have kN := rNum_calls 4 (8 * b + a) (by omega) (by omega) w1
    have e1 : slN ((a : Int), (b : Int), false) = 8 * b + a := by simp [slN]; omega
    rw [show ((8 * b + a : Nat) : Int) = 8 * (b : Int) + a by omega] at kN
    go_wp2_with fail
    refine kN.mono ?_
    rintro e w2 ⟨rfl, hf2⟩
    go_wp2
    go_ret2
    exact ⟨by unfold slY; rw [e1]; rfl, hf.trans0 hf2⟩
set_option maxRecDepth 100000 in
theorem rAll_calls (v : Value) (l : List Slt) (w : World) (hs : SlS w v l) (hr : ∀ s ∈ l, rightS s = true) (hl : l.length ≤ 100000) : Calls Try.prog 56 #[v] w fun e w' => e = .returned (.tuple #[strL (l.flatMap slY), .int .i64 0]) ∧ Fr [] w w' := by
  obtain ⟨a, cap, rfl, hlc, hcm, _⟩ := hs.open
  go_enter Try.func56, Try.ntmps56
  go_wp2
  go_loopw [4, 5] (fun u i wr => ∃ k : Nat, k ≤ l.length ∧ i = .int .i64 k ∧ u = strL ((l.take k).flatMap slY) ∧ Fr [] w wr) (fun _ i _ => l.length - (intOf i).toNat)
  case atStart => exact ⟨0, Nat.zero_le _, rfl, rfl, Fr.refl _ _⟩
  case round =>
    obtain ⟨k, hk, rfl, rfl, hF⟩ := hrel
    by_cases hlt : k < l.length
    · obtain ⟨b, off, rfl, hb, c0, c1, c2⟩ := SlS.at (hs.fr0 hF) hlt
      have Hst := hidIt (take_flat_slY hlt)
      have hrk : rightS (l.getD k zS) = true := right_getD hr k
      have hlen := flat_slY_len (l.take k)
      have htk : (l.take k).length = k := by simp; omega
      rw [htk] at hlen
      have key := fun w => rEncode_calls (l.getD k zS) hrk w
      have hl4 := slY_length (l.getD k zS)
      have had : ∀ X : World, (binOp .add 9 (strL ((l.take k).flatMap slY)) (strL (slY (l.getD k zS)))).run Try.prog X = .ok (strL ((l.take k).flatMap slY ++ slY (l.getD k zS))) X := fun X => add_str _ _ X (by omega)
      clear hlen htk hl4
      generalize (l.take k).flatMap slY = pre at *
      generalize slY (l.getD k zS) = bs at *
      generalize l.getD k zS = s at *
      go_wp2_with fail
      refine (key _).mono ?_
      rintro e w2 ⟨rfl, hf2⟩
      go_wp2
      go_roundw
      case rel => exact ⟨k + 1, by omega, by go_num, by rw [Hst.out], hF.trans0 hf2⟩
      case measure => simp [intOf]; omega
    · have hke : k = l.length := by omega
      subst hke
      rw [List.take_length]
      go_wp2
      go_ret2
      exact ⟨rfl, hF⟩
end Go.Proofs.Ytknbjdbdpdbeiaa
