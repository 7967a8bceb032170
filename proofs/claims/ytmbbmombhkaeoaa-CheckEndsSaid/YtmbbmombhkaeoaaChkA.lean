/-
  Package check's and its document's small functions on one slot.
-/
import Derived.Test.YtmbbmombhkaeoaaSlots
import Derived.Test.YtmbbmombhkaeoaaProg
import Derived.ChangeKeysEq
import Derived.Deep.QuietTactic
import Derived.BigQuiet
namespace Go.Proofs.Ytmbbmombhkaeoaa
open Go.RowKit

theorem follows : Try.prog.follows .mixedOrders = true := by kernel_rfl
/-! ### equality of slots -/
theorem fieldsSlot (f : Array Field) (h : f = #[{ name := "Kind", type := 3, offset := 0, embedded := false, tag := "", pkgPath := "", byteOffset := 0 }, { name := "Host", type := 3, offset := 1, embedded := false, tag := "", pkgPath := "", byteOffset := 8 },{ name := "Own", type := 4, offset := 2, embedded := false, tag := "", pkgPath := "", byteOffset := 16 }])
    (d : Nat) (a b : Slt) (w : World) : (Op.eqFields (d + 1) (slotC a).toArray (slotC b).toArray f.toList).run Try.prog w = .ok (sEq a b) w := by
  obtain ⟨a1, a2, a3⟩ := a
  obtain ⟨b1, b2, b3⟩ := b
  rw [h]
  unfold sEq
  by_cases h1 : a1 = b1 <;> by_cases h2 : a2 = b2 <;> cases a3 <;> cases b3 <;> simp [Op.eqFields, go_sem, h1, h2, Try.underlying3, Try.underlying4]
theorem equalSlot (d : Nat) (a b : Int) (c : Bool) (a' b' : Int) (c' : Bool) (w : World) :
    (Op.equalIn (d + 2) 45 (.agg #[.int .i64 a, .int .i64 b, .bool c]) (.agg #[.int .i64 a', .int .i64 b', .bool c'])).run Try.prog w = .ok (sEq (a, b, c) (a', b', c')) w := by
  rw [run_equalIn_struct (P := Try.prog) w (d + 1) 45 _ _ (by kernel_rfl) (by kernel_rfl)]
  exact fieldsSlot _ (by kernel_rfl) d (a, b, c) (a', b', c') w
theorem equalSlotR (d : Nat) (a b : Int) (c : Bool) (a' b' : Int) (c' : Bool) (w : World) :
    (Op.equalIn (d + 2) 44 (.agg #[.int .i64 a, .int .i64 b, .bool c]) (.agg #[.int .i64 a', .int .i64 b', .bool c'])).run Try.prog w = .ok (sEq (a, b, c) (a', b', c')) w := by
  rw [run_equalIn_struct (P := Try.prog) w (d + 1) 44 _ _ (by kernel_rfl) (by kernel_rfl)]
  exact fieldsSlot _ (by kernel_rfl) d (a, b, c) (a', b', c') w
theorem equalSlot0 (a b : Int) (c : Bool) (a' b' : Int) (c' : Bool) (w : World) :
    (Op.equalIn 10000 45 (.agg #[.int .i64 a, .int .i64 b, .bool c]) (.agg #[.int .i64 a', .int .i64 b', .bool c'])).run Try.prog w = .ok (sEq (a, b, c) (a', b', c')) w := equalSlot 9998 a b c a' b' c' w
theorem equalSlotR0 (a b : Int) (c : Bool) (a' b' : Int) (c' : Bool) (w : World) :
    (Op.equalIn 10000 44 (.agg #[.int .i64 a, .int .i64 b, .bool c]) (.agg #[.int .i64 a', .int .i64 b', .bool c'])).run Try.prog w = .ok (sEq (a, b, c) (a', b', c')) w := equalSlotR 9998 a b c a' b' c' w

attribute [local go_sem high] equalSlot0 equalSlotR0
theorem right1 {k h : Int} {o : Bool} (h1 : (k == 1) = true) (h2 : 0 ≤ h) : decide (h < 512) = rightS (k, h, o) := by
  have : k = 1 := by simpa using h1
  subst this
  simp [rightS, h2]
theorem right2 {k h : Int} {o : Bool} (h1 : (k == 1) = true) (h2 : h < 0) : false = rightS (k, h, o) := by
  have : k = 1 := by simpa using h1
  subst this
  simp [rightS]; omega
theorem right3 {k h : Int} {o : Bool} (h2 : sEq (k, h, o) (0, 0, false) = true) : true = rightS (k, h, o) := by
  have := (sEq_iff _ _).1 h2
  cases this
  rfl
theorem right4 {k h : Int} {o : Bool} (h1 : (k == 1) = false) (h2 : ¬ sEq (k, h, o) (0, 0, false) = true) : sEq (k, h, o) (2, 0, false) = rightS (k, h, o) := by
  have hk : ¬ k = 1 := by simpa using h1
  simp only [rightS, if_neg hk]
  rw [Bool.eq_iff_iff, sEq_iff]
  simp only [sEq_iff] at h2
  cases o <;> simp at h2 ⊢
  omega
set_option maxHeartbeats 400000 in
theorem Right_calls (k h : Int) (o : Bool) (w : World) : Calls Try.prog 33 #[.agg #[.int .i64 k, .int .i64 h, .bool o]] w fun e w' => e = .returned (.bool (rightS (k, h, o))) ∧ Fr [] w w' := by
  go_enter Try.func33, Try.ntmps33
  go_wp2
  all_goals go_ret
  · exact ⟨ret_bool (right1 ‹_› ‹_›), (Fr.refl _ _).alloc _⟩
  · exact ⟨ret_bool (right2 ‹_› ‹_›), (Fr.refl _ _).alloc _⟩
  · exact ⟨ret_bool (right3 ‹_›), (Fr.refl _ _).alloc _⟩
  · exact ⟨ret_bool (right4 ‹_› ‹_›), (Fr.refl _ _).alloc _⟩
set_option maxHeartbeats 400000 in
theorem rRight_calls (k h : Int) (o : Bool) (w : World) : Calls Try.prog 31 #[.agg #[.int .i64 k, .int .i64 h, .bool o]] w fun e w' => e = .returned (.bool (rightS (k, h, o))) ∧ Fr [] w w' := by
  go_enter Try.func31, Try.ntmps31
  go_wp2
  all_goals go_ret
  all_goals refine ⟨ret_bool ?_, (Fr.refl _ _).alloc _⟩
  all_goals (simp_all [rightS]; try omega)

def hasS (s : Slt) (m : Int) : Bool := rightS s && decide (s.1 = 1) && decide (s.2.1 < m)
def badS (s : Slt) (m : Int) : Bool := !rightS s || decide (s.1 = 1) && !hasS s m
set_option maxHeartbeats 400000 in
theorem has_calls (k h : Int) (o : Bool) (m : Int) (w : World) : Calls Try.prog 26 #[.agg #[.int .i64 k, .int .i64 h, .bool o], .int .i64 m] w fun e w' => e = .returned (.bool (hasS (k, h, o) m)) ∧ Fr [] w w' := by
  go_enter Try.func26, Try.ntmps26
  go_wp2_with fail
  refine (Right_calls _ _ _ _).mono ?_
  rintro e w1 ⟨rfl, hf⟩
  have B := (Blk.new w [.int .i64 k, .int .i64 h, .bool o] 45).fr0 hf
  have c := B.cell
  have hF : Fr [] w w1 := ((Fr.refl _ w).alloc _).trans0 hf
  have Hd : Hid (hasS (k, h, o) m = (rightS (k, h, o) && decide (k = 1) && decide (h < m))) := hidIt rfl
  generalize rightS (k, h, o) = r at *
  cases r <;> by_cases hk : k = 1
  all_goals go_wp2
  all_goals go_ret
  all_goals rw [Hd.out]
  all_goals exact ⟨ret_bool (by simp [hk]), hF⟩
set_option maxHeartbeats 400000 in
theorem rHas_calls (k h : Int) (o : Bool) (m : Int) (w : World) : Calls Try.prog 19 #[.agg #[.int .i64 k, .int .i64 h, .bool o], .int .i64 m] w fun e w' => e = .returned (.bool (hasS (k, h, o) m)) ∧ Fr [] w w' := by
  go_enter Try.func19, Try.ntmps19
  go_wp2_with fail
  refine (rRight_calls _ _ _ _).mono ?_
  rintro e w1 ⟨rfl, hf⟩
  have B := (Blk.new w [.int .i64 k, .int .i64 h, .bool o] 44).fr0 hf
  have c := B.cell
  have hF : Fr [] w w1 := ((Fr.refl _ w).alloc _).trans0 hf
  have Hd : Hid (hasS (k, h, o) m = (rightS (k, h, o) && decide (k = 1) && decide (h < m))) := hidIt rfl
  generalize rightS (k, h, o) = r at *
  cases r <;> by_cases hk : k = 1
  all_goals go_wp2
  all_goals go_ret
  all_goals rw [Hd.out]
  all_goals exact ⟨ret_bool (by simp [hk]), hF⟩
end Go.Proofs.Ytmbbmombhkaeoaa
