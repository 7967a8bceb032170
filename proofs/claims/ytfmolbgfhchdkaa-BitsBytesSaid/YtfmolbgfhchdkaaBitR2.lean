/-
  The reference of layer 10: New.
-/
import Derived.Test.YtfmolbgfhchdkaaBitR
namespace Go.Proofs.Ytfmolbgfhchdkaa
open Go.RowKit Go.Maps

def P2 (x : Int) : Prop := x = 1 ∨ x = 2 ∨ x = 4 ∨ x = 8 ∨ x = 16 ∨ x = 32 ∨ x = 64 ∨ x = 128
theorem P2_step {x : Int} (h : P2 x) (hx : x ≤ 64) : P2 (x + x) ∧ 1 ≤ x ∧ x ≤ 128 := by unfold P2 at *; omega
theorem P2_le {x : Int} (h : P2 x) : 1 ≤ x ∧ x ≤ 128 := by unfold P2 at *; omega
theorem P2_no {x g : Int} (h : P2 x) (hx : x ≤ 64) (hg : pow2 g = false) : x ≠ g := by
  rintro rfl
  simp [pow2] at hg
  unfold P2 at h
  omega
theorem P2_far {x g : Int} (h : P2 x) (hg : pow2 g = true) (hx : x ≤ g) (hn : x ≠ g) : x + x ≤ g := by
  simp [pow2] at hg
  unfold P2 at h
  omega
def z0 : Value := .agg #[.int .i64 0, .int .i64 0, .slice none 0 0]
set_option maxRecDepth 100000 in
set_option maxHeartbeats 800000 in
theorem rNew_no (s g : Int) (w : World) (h : okNew s g = false) : Calls Try.prog 33 #[.int .i64 s, .int .i64 g] w
      fun e w' => e = .returned (.tuple #[z0, .bool false]) ∧ Fr [] w w' := by
  by_cases hs : okSec s = true
  · have hp : pow2 g = false := by simpa [okNew, hs] using h
    have hs1 : 0 ≤ s ∧ s ≤ 4096 := by simpa [okSec] using hs
    have h1 := hs1.1
    have h2 := hs1.2
    have B4 := Blk.new w [.int .i64 0, .int .i64 0, .slice none 0 0] 28
    have B4c := B4.cell
    clear hs hs1 h
    go_enter Try.func33, Try.ntmps33
    go_wp2
    go_loopw [6] (fun i wr => ∃ x : Int, P2 x ∧ i = .int .i64 x ∧ wr = w.alloc (.cells #[.int .i64 0, .int .i64 0, .slice none 0 0] 28)) (fun i _ => 200 - (intOf i).toNat)
    case atStart => exact ⟨1, .inl rfl, rfl, rfl⟩
    case round =>
      obtain ⟨x, hx, rfl, rfl⟩ := hrel
      have hx1 := P2_le hx
      by_cases h64 : x ≤ 64
      · have hne := P2_no hx h64 hp
        have hst := hidIt (P2_step hx h64)
        clear hx
        go_wp2
        go_roundw
        case rel => exact ⟨x + x, hst.out.1, by go_num, trivial⟩
        case measure => simp [intOf]; omega
      · clear hx
        go_wp2
        exact bodyPost_ret (v := .tuple #[z0, .bool false]) (by simp [results, Try.results33, go_sem, z0, B4c]) rfl ⟨rfl, (Fr.refl _ _).alloc _⟩
  · have hs1 : s < 0 ∨ 4096 < s := by simp [okSec] at hs; omega
    clear hs h
    have B4 := Blk.new w [.int .i64 0, .int .i64 0, .slice none 0 0] 28
    have B4c := B4.cell
    rcases hs1 with hs1 | hs1
    · go_enter Try.func33, Try.ntmps33
      go_wp2
      exact bodyPost_ret (v := .tuple #[z0, .bool false]) (by simp [results, Try.results33, go_sem, z0, B4c]) rfl ⟨rfl, (Fr.refl _ _).alloc _⟩
    · have h0 : 0 ≤ s := by omega
      go_enter Try.func33, Try.ntmps33
      go_wp2
      exact bodyPost_ret (v := .tuple #[z0, .bool false]) (by simp [results, Try.results33, go_sem, z0, B4c]) rfl ⟨rfl, (Fr.refl _ _).alloc _⟩
def rb (S g : Nat) (v : Value) : Value := .agg #[.int .i64 S, .int .i64 g, v]
set_option maxRecDepth 100000 in
set_option maxHeartbeats 1600000 in
theorem rNew_yes (S g : Nat) (w : World) (hS : S ≤ 4096) (hp : pow2 g = true) : Calls Try.prog 33 #[.int .i64 (S : Int), .int .i64 (g : Int)] w
      fun e w' => ∃ v, e = .returned (.tuple #[rb S g v, .bool true]) ∧ w'.ownsRow w.heap.size 4 1 v (gran S g) ((List.replicate (gran S g) false).flatMap boolC) ∧ Fr [] w w' := by
  have hg := pow2_le hp
  have hg0 : 0 < g := by omega
  have hle := gran_le hS hg0
  have B4 := Blk.new w [.int .i64 0, .int .i64 0, .slice none 0 0] 28
  have B4c := B4.cell
  have B4f := B4.frozen
  go_enter Try.func33, Try.ntmps33
  go_wp2
  go_loopw [6] (fun i wr => ∃ x : Int, P2 x ∧ x ≤ g ∧ i = .int .i64 x ∧ wr = w.alloc (.cells #[.int .i64 0, .int .i64 0, .slice none 0 0] 28)) (fun i _ => 200 - (intOf i).toNat)
  case atStart => exact ⟨1, .inl rfl, hg.1, rfl, rfl⟩
  case round =>
    obtain ⟨x, hx, hxg, rfl, rfl⟩ := hrel
    have hx1 := P2_le hx
    have h64 : x ≤ 64 := by omega
    by_cases hne : x = g
    · subst hne
      clear hx hxg hx1 hp
      go_wp2_with fail
      go_loopw [8] (fun n wr => ∃ (k : Nat) (v : Value), k ≤ gran S g ∧ n = .int .i64 ((k * g : Nat) : Int) ∧ Blk wr (w.heap.size + 1) [.int .i64 S, .int .i64 g, v] 28 ∧ Blk wr w.heap.size [.int .i64 0, .int .i64 0, .slice none 0 0] 28 ∧
        wr.ownsRow (w.heap.size + 2) 4 1 v k ((List.replicate k false).flatMap boolC) ∧ Fr [] w wr) (fun n _ => S - (intOf n).toNat)
      case atStart =>
        exact ⟨0, .slice none 0 0, Nat.zero_le _, by simp, Blk.new' (by simp) [_, _, _] _, B4.alloc _, World.ownsRow_nil _ _ _ _, ((Fr.refl _ _).alloc _).alloc _⟩
      case round =>
        obtain ⟨k, v, hk, rfl, B7, B4', hown, hF⟩ := hrel
        obtain ⟨av, cv, rfl, _, _, _⟩ := Sl.of_owns hown
        have hcl := ceil_lt (X := S) (g := g) (k := k) hg0
        have hcl : k < gran S g ↔ k * g < S := hcl
        have hnx : Hid ((k + 1) * g = k * g + g) := hidIt (Nat.succ_mul k g)
        have Hrep : Hid ((List.replicate (k + 1) false).flatMap boolC = (List.replicate k false).flatMap boolC ++ boolC false) := hidIt (by rw [List.replicate_succ', List.flatMap_append]; simp)
        have hkg : k * g < 1000000 := by
          have : k * g ≤ 4096 * 64 := Nat.mul_le_mul (by omega) (by omega)
          omega
        generalize k * g = m at *
        have b7 := B7.cell
        have f7 := B7.frozen
        have b4 := B4'.cell
        have f4 := B4'.frozen
        have hsz := hF.size
        have hbl := B7.lt
        by_cases hlt : m < S
        · have hk' := hcl.2 hlt
          have hb2 : w.heap.size + 2 ≤ (wr.alloc (.cells #[.bool false] 4)).heap.size := by simp; omega
          clear hcl hg
          go_wp2_with (at_builtin; refine wpList_append1 26 4 (.bool false) 1 1 Try.underlying26 infoBool rfl (by decide) (by decide) rfl _ _ rfl (w.heap.size + 2) _ k _ rfl (hown.alloc _) (boolC false) rfl bool_one wr.heap.size rfl (Blk.new _ _ _) (by omega) hb2 ?_; intro v' w2 hown2 hgrow hloc; obtain ⟨av', cv', rfl, _, _, _⟩ := Sl.of_owns hown2; have hgf := Fr.of_grown hgrow; have B72 := (B7.alloc _).fr hgf (own_notin hown (by omega)); have B42 := (B4'.alloc _).fr hgf (own_notin hown (by omega)); have b72 := B72.cell; have f72 := B72.frozen)
          have hob := own_base hown
          go_roundw
          case rel =>
            refine ⟨k + 1, .slice av' (k + 1) cv', by omega, by rw [hnx.out]; go_num, ?_, B42.other (by simp) _, ?_, ?_⟩
            · exact B72.setCell 2 _
            · rw [Hrep.out]
              exact owns_setCell hown2 (by simp) _
            · exact (((hF.alloc _).grown hgrow (fun x hx => .inr (by have := hob x hx; omega)))).setCell (.inr (by simp)) _
          case measure => simp [intOf]; omega
        · have hke : k = gran S g := by omega
          subst hke
          clear hcl hg
          go_wp2
          exact bodyPost_ret (v := .tuple #[rb S g (.slice av (gran S g) cv), .bool true]) (by simp [results, Try.results33, go_sem, rb, b4]) rfl ⟨_, rfl, owns_base (owns_setCell (owns_setCell (owns_setCell hown (by simp) _) (by simp) _) (by simp) _) (by omega), ((hF.setCell (.inr (Nat.le_refl _)) _).setCell (.inr (Nat.le_refl _)) _).setCell (.inr (Nat.le_refl _)) _⟩
    · have hfar := hidIt (P2_far hx hp hxg hne)
      have hst := hidIt (P2_step hx h64)
      clear hx hp
      go_wp2
      go_roundw
      case rel => exact ⟨x + x, hst.out.1, hfar.out, by go_num, trivial⟩
      case measure => simp [intOf]; omega
end Go.Proofs.Ytfmolbgfhchdkaa
