/-
  math/bits.Mul of 1 and a number that is not great.
-/
import Derived.Test.YtkammkbjkojfmaaMem
import Derived.Test.YtkammkbjkojfmaaProg
import Derived.Laws.Bits64b
namespace Go.Proofs.Ytkammkbjkojfmaa
open Go.RowKit

theorem and_q (q : Nat) (hq : q ≤ 65536) : bits .and .u64 (q : Int) 4294967295 = (q : Int) := by
  have h := bits_and_u64_nat q 4294967295 (by omega) (by omega)
  have e : q &&& 4294967295 = q % 4294967296 := Nat.and_two_pow_sub_one_eq_mod q 32
  rw [e, Nat.mod_eq_of_lt (by omega)] at h
  exact h
set_option maxRecDepth 100000 in
set_option maxHeartbeats 800000 in
theorem Mul64_calls (q : Nat) (hq : q ≤ 65536) (w : World) : Calls Try.prog 49 #[.int .u64 1, .int .u64 q] w fun e w' => e = .returned (.tuple #[.int .u64 0, .int .u64 q]) ∧ Fr [] w w' := by
  have h1 : bits .and .u64 (1 : Int) 4294967295 = 1 := and_q 1 (by omega)
  have h2 := and_q q hq
  have h3 : (q : Int) / 4294967296 = 0 := by omega
  have h4 : bits .and .u64 (0 : Int) 4294967295 = 0 := and_q 0 (by omega)
  have h5 : IntKind.u64.wrap (q : Int) = (q : Int) := by rw [IntKind.wrap_u64]; omega
  go_enter Try.func49, Try.ntmps49
  go_wp2
  go_ret2
  exact ⟨rfl, Fr.refl _ _⟩
set_option maxRecDepth 100000 in
set_option maxHeartbeats 800000 in
theorem Mul_calls (q : Nat) (hq : q ≤ 65536) (w : World) : Calls Try.prog 45 #[.int .u64 1, .int .u64 q] w fun e w' => e = .returned (.tuple #[.int .u64 0, .int .u64 q]) ∧ Fr [] w w' := by
  have h5 : IntKind.u64.wrap (q : Int) = (q : Int) := by rw [IntKind.wrap_u64]; omega
  go_enter Try.func45, Try.ntmps45
  go_wp2_with fail
  refine (Mul64_calls q hq w).mono ?_
  rintro e w1 ⟨rfl, hf⟩
  go_wp2
  go_ret2
  exact ⟨rfl, hf⟩
end Go.Proofs.Ytkammkbjkojfmaa
