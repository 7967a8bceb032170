/-
  The reference of layer 10: Is.
-/
import Derived.Test.YtfmolbgfhchdkaaBitV
namespace Go.Proofs.Ytfmolbgfhchdkaa
open Go.RowKit Go.Maps

set_option maxRecDepth 100000 in
set_option maxHeartbeats 800000 in
theorem rIs_calls (S g : Nat) (u : Value) (l : List Bool) (s : Int) (w : World) (hu : SlB w u l) (hS : S ≤ 4096) (hg : 0 < g ∧ g ≤ 64) (hlen : l.length = gran S g) :
    Calls Try.prog 44 #[.agg #[.int .i64 S, .int .i64 g, u], .int .i64 s] w fun e w' => e = .returned (.bool (isB S g l s)) ∧ Fr [] w w' := by
  have hg0 : (0 : Int) < g := by omega
  have hgn : ¬ (g : Int) = 0 := by omega
  have hgz : ¬ g = 0 := by omega
  have hle := gran_le hS hg.1
  obtain ⟨a, cap, rfl, _, _, _⟩ := hu.open
  have Hd : Hid (isB S g l s = (decide (0 ≤ s) && decide (s < S) && l.getD (s.toNat / g) false)) := hidIt rfl
  have B2 := Blk.new w [.int .i64 S, .int .i64 g, .slice a l.length cap] 28
  have b2 := B2.cell
  have hu2 := SlF.fr0 hu ((Fr.refl _ _).alloc (.cells #[.int .i64 S, .int .i64 g, .slice a l.length cap] 28))
  by_cases h0 : 0 ≤ s
  · obtain ⟨n, rfl⟩ := Int.eq_ofNat_of_zero_le h0
    by_cases h1' : n < S
    · have hq : Int.tdiv (n : Int) g = ((n / g : Nat) : Int) := Int.ofNat_tdiv n g
      have hkn := Nat.div_le_self n g
      have hkl : n / g < l.length := by rw [hlen]; exact gran_at hg.1 h1'
      obtain ⟨b, off, hab, hb, c0⟩ := SlB.at hu2 hkl
      cases hab
      have Hd2 : Hid (isB S g l n = l.getD (n / g) false) := hidIt (by rw [Hd.out]; simp [h1'])
      replace hlen := hidIt hlen
      generalize n / g = k at *
      have hqw : IntKind.i64.wrap (k : Int) = (k : Int) := IntWalk.i64_in _ (by omega)
      generalize l.getD k false = q at *
      go_enter Try.func44, Try.ntmps44
      go_wp2_with fail
      go_quiet (fail)
      go_wp2
      go_ret
      exact ⟨ret_bool (by rw [Hd2.out]), ((Fr.refl _ _).alloc _).drewN _⟩
    · replace hlen := hidIt hlen
      go_enter Try.func44, Try.ntmps44
      go_wp2_with fail
      go_quiet (fail)
      go_wp2
      go_ret
      exact ⟨ret_bool (by rw [Hd.out]; simp [h1']), ((Fr.refl _ _).alloc _).drewN _⟩
  · have hd : decide (0 ≤ s) = false := by simp; omega
    replace hlen := hidIt hlen
    go_enter Try.func44, Try.ntmps44
    go_wp2_with fail
    go_quiet (fail)
    go_wp2
    go_ret
    exact ⟨ret_bool (by rw [Hd.out, hd]; rfl), ((Fr.refl _ _).alloc _).drewN _⟩
end Go.Proofs.Ytfmolbgfhchdkaa
