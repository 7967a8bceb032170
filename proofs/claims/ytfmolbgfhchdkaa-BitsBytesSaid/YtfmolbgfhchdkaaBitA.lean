/-
  Package bits: New, right, granules, Sectors, Count, the closures of Set and Clear, each.
-/
import Derived.Test.YtfmolbgfhchdkaaMaps
import Derived.Test.YtfmolbgfhchdkaaBitPlain
import Derived.Test.YtfmolbgfhchdkaaProg
import Derived.Deep.QuietTactic
import Derived.BigQuiet
import Derived.StillTailTactics
namespace Go.Proofs.Ytfmolbgfhchdkaa
open Go.RowKit Go.Maps

theorem follows : Try.prog.follows .mixedOrders = true := by kernel_rfl
/-- what the map of bits holds: the granules that are dirty -/
def bitM (l : List Bool) : Value → Option Value
  | .int .i64 k => if 0 ≤ k ∧ l.getD k.toNat false = true then some (.int .i64 1) else none
  | _ => none
theorem bitM_int (l : List Bool) (k : Int) : bitM l (.int .i64 k) = if 0 ≤ k ∧ l.getD k.toNat false = true then some (.int .i64 1) else none := rfl
/-- In block tb lie bits, their map in block mb: S sectors, g to a granule, the granules l. -/
structure BitW (w : World) (tb mb S g : Nat) (l : List Bool) : Prop where
  blk : Blk w tb [.int .i64 S, .int .i64 g, .map (some mb)] 71
  size : S ≤ 4096
  grain : 0 < g ∧ g ≤ 64
  len : l.length = gran S g
  map : ∃ es clock, mapAt w mb = some (es, clock) ∧ IsM Try.prog 3 es clock (bitM l)
theorem BitW.lt {w : World} {tb mb S g : Nat} {l : List Bool} (h : BitW w tb mb S g l) : tb < w.heap.size ∧ mb < w.heap.size := by
  obtain ⟨es, c, hm, _⟩ := h.map
  exact ⟨h.blk.lt, mapAt_lt hm⟩
theorem BitW.ne {w : World} {tb mb S g : Nat} {l : List Bool} (h : BitW w tb mb S g l) : tb ≠ mb := by
  rintro rfl
  obtain ⟨es, c, hm, _⟩ := h.map
  have := (mapAt_some.1 hm).symm.trans h.blk
  cases this
theorem BitW.fr {L : List Nat} {w w' : World} {tb mb S g : Nat} {l : List Bool} (h : BitW w tb mb S g l) (hf : Fr L w w') (h1 : tb ∉ L) (h2 : mb ∉ L) : BitW w' tb mb S g l := by
  obtain ⟨es, c, hm, hi⟩ := h.map
  exact ⟨h.blk.fr hf h1, h.size, h.grain, h.len, es, c, mapAt_fr hm hf h2, hi⟩
theorem BitW.fr0 {w w' : World} {tb mb S g : Nat} {l : List Bool} (h : BitW w tb mb S g l) (hf : Fr [] w w') : BitW w' tb mb S g l := h.fr hf (by simp) (by simp)
theorem gran_le {S g : Nat} (hS : S ≤ 4096) (hg : 0 < g) : gran S g ≤ 4096 := by
  have : ¬ 4096 < gran S g := by
    unfold gran
    rw [ceil_lt hg]
    have : 4096 * 1 ≤ 4096 * g := Nat.mul_le_mul_left _ hg
    omega
  omega
theorem keyInt : Keyed Try.prog 3 := int_keyed Try.underlying3
theorem keyI {k : Int} (h0 : 0 ≤ k) (h1 : k < 1000000) : keyOf Try.prog 3 (.int .i64 k) = some (.int .i64 k) := keyOf_int_mk Try.underlying3 (by simp [Lit.wf, IntKind.min, IntKind.max, IntKind.signed, IntKind.bits]; omega)
attribute [local go_sem] mapAt_alloc mapAt_setCell mapAt_drew mapAt_drewN
def okSec (n : Int) : Bool := decide (0 ≤ n) && decide (n ≤ 4096)
set_option maxHeartbeats 400000 in
theorem right_calls (s : Int) (w : World) : Calls Try.prog 54 #[.int .i64 s] w fun e w' => e = .returned (.bool (okSec s)) ∧ w = w' := by
  have H1 : 0 ≤ s → Hid (okSec s = decide (s ≤ 4096)) := fun h => by simp [Hid, okSec, h]
  have H2 : s < 0 → Hid (okSec s = false) := fun h => by simp [Hid, okSec]; omega
  go_enter Try.func54, Try.ntmps54
  go_wp2
  all_goals go_ret
  · exact ⟨ret_bool (H1 ‹_›).out.symm, rfl⟩
  · exact ⟨ret_bool (H2 ‹_›).out.symm, rfl⟩
theorem Sectors_calls (tb mb S g : Nat) (l : List Bool) (w : World) (h : BitW w tb mb S g l) : Calls Try.prog 14 #[.pointer (some ⟨tb, 0, none⟩)] w fun e w' => e = .returned (.int .i64 S) ∧ w = w' := by
  have c := h.blk.cell
  go_enter Try.func14, Try.ntmps14
  go_wp2
  go_ret
  exact ⟨rfl, rfl⟩
theorem granules_calls (tb mb S g : Nat) (l : List Bool) (w : World) (h : BitW w tb mb S g l) : Calls Try.prog 35 #[.pointer (some ⟨tb, 0, none⟩)] w fun e w' => e = .returned (.int .i64 (gran S g)) ∧ Fr [] w w' := by
  have c := h.blk.cell
  have hs := h.size
  have hg := h.grain
  go_enter Try.func35, Try.ntmps35
  have hg0 : (0 : Int) < g := by omega
  have hgn : ¬ (g : Int) = 0 := by omega
  have hq : Int.tdiv ((S : Int) + g - 1) g = (gran S g : Nat) := by
    unfold gran
    have e : (S : Int) + g - 1 = ((S + g - 1 : Nat) : Int) := by omega
    rw [e, Int.ofNat_tdiv]
  have hle := gran_le hs hg.1
  go_wp2_with fail
  go_quiet (fail)
  go_wp2
  go_ret
  exact ⟨rfl, (Fr.refl _ _).drewN _⟩
theorem look_bit {w : World} {mb : Nat} {l : List Bool} {es : Array MapEntry} {clock : Nat} (hi : IsM Try.prog 3 es clock (bitM l)) (hm : mapAt w mb = some (es, clock)) (k : Nat) (hk : k < 1000000) :
    (Instr.lookup 69 (.map (some mb)) (.int .i64 (k : Int)) false).run Try.prog w = .ok (.int .i64 (if l.getD k false = true then 1 else 0)) w := by
  rw [run_lookup_isM (z := .int .i64 0) Try.underlying69 keyInt hi false (keyI (by omega) (by omega)) w (by kernel_rfl) hm, bitM_int]
  have e : ((k : Int)).toNat = k := Int.toNat_natCast k
  rw [e]
  generalize l.getD k false = q
  cases q <;> simp
def isB (S g : Nat) (l : List Bool) (s : Int) : Bool := decide (0 ≤ s) && decide (s < S) && l.getD (s.toNat / g) false
set_option maxRecDepth 100000 in
set_option maxHeartbeats 800000 in
theorem Is_calls (tb mb S g : Nat) (l : List Bool) (s : Int) (w : World) (h : BitW w tb mb S g l) : Calls Try.prog 13 #[.pointer (some ⟨tb, 0, none⟩), .int .i64 s] w fun e w' => e = .returned (.bool (isB S g l s)) ∧ Fr [] w w' := by
  have c := h.blk.cell
  have hs := h.size
  have hg := h.grain
  have hg0 : (0 : Int) < g := by omega
  have hgn : ¬ (g : Int) = 0 := by omega
  obtain ⟨es, clock, hm, hi⟩ := h.map
  have Hd : Hid (isB S g l s = (decide (0 ≤ s) && decide (s < S) && l.getD (s.toNat / g) false)) := hidIt rfl
  by_cases h0 : 0 ≤ s
  · obtain ⟨n, rfl⟩ := Int.eq_ofNat_of_zero_le h0
    by_cases h1 : (n : Int) < S
    · have h1' : n < S := by omega
      have hq : Int.tdiv (n : Int) g = ((n / g : Nat) : Int) := Int.ofNat_tdiv n g
      have hkn := Nat.div_le_self n g
      have Hd2 : Hid (isB S g l n = l.getD (n / g) false) := hidIt (by rw [Hd.out]; simp [h1'])
      generalize n / g = k at *
      have hlook : ∀ W, mapAt W mb = some (es, clock) → (Instr.lookup 69 (.map (some mb)) (.int .i64 (k : Int)) false).run Try.prog W = .ok (.int .i64 (if l.getD k false = true then 1 else 0)) W := fun W hW => look_bit hi hW k (by omega)
      have hqw : IntKind.i64.wrap (k : Int) = (k : Int) := IntWalk.i64_in _ (by omega)
      generalize l.getD k false = q at *
      cases q
      all_goals go_enter Try.func13, Try.ntmps13
      all_goals go_wp2_with fail
      all_goals go_quiet (fail)
      all_goals go_wp2
      all_goals go_ret
      all_goals exact ⟨ret_bool (by rw [Hd2.out]), (Fr.refl _ _).drewN _⟩
    · have h1' : ¬ n < S := by omega
      go_enter Try.func13, Try.ntmps13
      go_wp2_with fail
      go_quiet (fail)
      go_wp2
      go_ret
      exact ⟨ret_bool (by rw [Hd.out]; simp [h1']), (Fr.refl _ _).drewN _⟩
  · have hd : decide (0 ≤ s) = false := by simp; omega
    go_enter Try.func13, Try.ntmps13
    go_wp2_with fail
    go_quiet (fail)
    go_wp2
    go_ret
    exact ⟨ret_bool (by rw [Hd.out, hd]; rfl), (Fr.refl _ _).drewN _⟩
end Go.Proofs.Ytfmolbgfhchdkaa
