/-
  bits.Same, with none.
-/
import Derived.Test.YtfmolbgfhchdkaaBitM
namespace Go.Proofs.Ytfmolbgfhchdkaa
open Go.RowKit Go.Maps
attribute [local go_sem] mapAt_alloc mapAt_setCell mapAt_drew mapAt_drewN

set_option maxRecDepth 100000 in
set_option maxHeartbeats 2000000 in
theorem Same_nil (tb mb S g : Nat) (l : List Bool) (w : World) (_ : BitW w tb mb S g l) :
    Calls Try.prog 21 #[.pointer (some ⟨tb, 0, none⟩), .pointer none] w fun e w' => e = .returned (.bool false) ∧ Fr [] w w' := by
  go_enter Try.func21, Try.ntmps21
  go_wp2_with fail
  go_quiet (fail)
  go_wp2
  go_ret
  exact ⟨rfl, (Fr.refl _ _).drewN _⟩
end Go.Proofs.Ytfmolbgfhchdkaa
