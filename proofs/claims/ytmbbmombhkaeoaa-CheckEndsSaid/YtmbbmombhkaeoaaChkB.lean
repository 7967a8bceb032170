/-
  Numbers, rows of numbers: beyond, Bad, Same, Clean, counted.
-/
import Derived.Test.YtmbbmombhkaeoaaChkA
import Derived.Test.YtmbbmombhkaeoaaInts
namespace Go.Proofs.Ytmbbmombhkaeoaa
open Go.RowKit
attribute [local go_sem high] equalSlot0 equalSlotR0

theorem infoInt : (Try.prog.info? 3).map (fun i => (i.zero, i.size, i.bytes)) = some (some (.int .i64 0), 1, 8) := by kernel_rfl
set_option maxHeartbeats 400000 in
theorem beyond_calls (k h : Int) (o : Bool) (m : Int) (w : World) : Calls Try.prog 25 #[.agg #[.int .i64 k, .int .i64 h, .bool o], .int .i64 m] w fun e w' => e = .returned (.bool (badS (k, h, o) m)) ∧ Fr [] w w' := by
  go_enter Try.func25, Try.ntmps25
  go_wp2_with fail
  refine (Right_calls _ _ _ _).mono ?_
  rintro e w1 ⟨rfl, hf⟩
  have B := (Blk.new w [.int .i64 k, .int .i64 h, .bool o] 45).fr0 hf
  have c := B.cell
  have hF : Fr [] w w1 := ((Fr.refl _ w).alloc _).trans0 hf
  have Hd : Hid (badS (k, h, o) m = (!rightS (k, h, o) || decide (k = 1) && !hasS (k, h, o) m)) := hidIt rfl
  generalize rightS (k, h, o) = r at *
  cases r <;> by_cases hk : k = 1
  all_goals go_wp2_with (go_at_call 26; refine (has_calls _ _ _ _ _).mono ?_; rintro e w2 ⟨rfl, hf2⟩)
  all_goals go_ret
  all_goals rw [Hd.out]
  all_goals first | exact ⟨ret_bool (by simp [hk]), hF⟩ | exact ⟨ret_bool (by simp [hk]), hF.trans0 hf2⟩
set_option maxHeartbeats 400000 in
theorem rBad_calls (k h : Int) (o : Bool) (m : Int) (w : World) : Calls Try.prog 28 #[.agg #[.int .i64 k, .int .i64 h, .bool o], .int .i64 m] w fun e w' => e = .returned (.bool (badS (k, h, o) m)) ∧ Fr [] w w' := by
  go_enter Try.func28, Try.ntmps28
  go_wp2_with fail
  refine (rRight_calls _ _ _ _).mono ?_
  rintro e w1 ⟨rfl, hf⟩
  have B := (Blk.new w [.int .i64 k, .int .i64 h, .bool o] 44).fr0 hf
  have c := B.cell
  have hF : Fr [] w w1 := ((Fr.refl _ w).alloc _).trans0 hf
  have Hd : Hid (badS (k, h, o) m = (!rightS (k, h, o) || decide (k = 1) && !(rightS (k, h, o) && decide (k = 1) && decide (h < m)))) := hidIt rfl
  generalize rightS (k, h, o) = r at *
  cases r <;> by_cases hk : k = 1
  all_goals go_wp2
  all_goals go_ret
  all_goals rw [Hd.out]
  all_goals refine ⟨ret_bool ?_, hF⟩
  all_goals simp [hk]
  all_goals (rw [Bool.eq_iff_iff]; simp)
/-! ### Same: of equal rows -/
set_option maxRecDepth 100000 in
set_option maxHeartbeats 800000 in
theorem SameI_calls (v u : Value) (l : List Int) (w : World) (hv : SlI w v l) (hu : SlI w u l) : Calls Try.prog 13 #[v, u] w fun e w' => e = .returned (.bool true) ∧ Fr [] w w' := by
  obtain ⟨a, cap, rfl, hlc, hcm, _⟩ := hv.open
  obtain ⟨a', cap', rfl, _, _, _⟩ := hu.open
  unfold maxLen at hcm
  go_enter Try.func13, Try.ntmps13
  go_wp2
  go_loopw [5] (fun i wr => ∃ k : Nat, k ≤ l.length ∧ i = .int .i64 k ∧ Fr [] w wr) (fun i _ => l.length - (intOf i).toNat)
  case atStart => exact ⟨0, Nat.zero_le _, rfl, Fr.refl _ _⟩
  case round =>
    obtain ⟨k, hk, rfl, hF⟩ := hrel
    by_cases hlt : k < l.length
    · obtain ⟨b, off, rfl, hb, c0⟩ := SlI.at (hv.fr0 hF) hlt
      obtain ⟨b', off', rfl, hb', d0⟩ := SlI.at (hu.fr0 hF) hlt
      generalize l.getD k 0 = s at *
      have hlt' : (k : Int) < (l.length : Int) := by omega
      have hk0 : (0 : Int) ≤ k := by omega
      go_wp2_with fail
      go_quiet (fail)
      go_wp2
      exact ⟨⟨k + 1, by omega, by go_num, hF.drewN _⟩, by simp [intOf]; omega⟩
    · go_wp2
      go_ret
      exact ⟨rfl, hF⟩
set_option maxRecDepth 100000 in
set_option maxHeartbeats 800000 in
theorem SameS_calls (v u : Value) (l : List Slt) (w : World) (hv : SlS w v l) (hu : SlS w u l) : Calls Try.prog 30 #[v, u] w fun e w' => e = .returned (.bool true) ∧ Fr [] w w' := by
  obtain ⟨a, cap, rfl, hlc, hcm, _⟩ := hv.open
  obtain ⟨a', cap', rfl, _, _, _⟩ := hu.open
  unfold maxLen at hcm
  go_enter Try.func30, Try.ntmps30
  go_wp2
  go_loopw [5] (fun i wr => ∃ k : Nat, k ≤ l.length ∧ i = .int .i64 k ∧ Fr [] w wr) (fun i _ => l.length - (intOf i).toNat)
  case atStart => exact ⟨0, Nat.zero_le _, rfl, Fr.refl _ _⟩
  case round =>
    obtain ⟨k, hk, rfl, hF⟩ := hrel
    by_cases hlt : k < l.length
    · obtain ⟨b, off, rfl, hb, c0, c1, c2⟩ := SlS.at (hv.fr0 hF) hlt
      obtain ⟨b', off', rfl, hb', d0, d1, d2⟩ := SlS.at (hu.fr0 hF) hlt
      generalize l.getD k zS = s at *
      have hlt' : (k : Int) < (l.length : Int) := by omega
      have hk0 : (0 : Int) ≤ k := by omega
      have hss := sEq_self s
      go_wp2_with fail
      go_quiet (fail)
      go_wp2
      exact ⟨⟨k + 1, by omega, by go_num, hF.drewN _⟩, by simp [intOf]; omega⟩
    · go_wp2
      go_ret
      exact ⟨rfl, hF⟩
end Go.Proofs.Ytmbbmombhkaeoaa
