/-
  ref01: Num, limit (widths 1, 2, 4).
-/
import Derived.Test.YtfmolbgfhchdkaaOctP
namespace Go.Proofs.Ytfmolbgfhchdkaa
open Go.RowKit Go.Maps

theorem numL_cons : ∀ (i n : Nat), numL (i + 1) n = UInt8.ofNat (n / 256 ^ i) :: numL i n
  | 0, n => by simp [numL]
  | i + 1, n => by
    have ih := numL_cons i (n / 256)
    show numL (i + 1) (n / 256) ++ [UInt8.ofNat n] = _
    rw [ih, Nat.div_div_eq_div_mul, Nat.mul_comm, ← Nat.pow_succ]
    rfl
theorem add_str (a b : List UInt8) (X : World) (h : a.length + b.length ≤ 9223372036854775807) : (binOp .add 9 (strL a) (strL b)).run Try.prog X = .ok (strL (a ++ b)) X := by
  have e : ((⟨a.toArray⟩ : ByteArray) ++ ⟨b.toArray⟩) = ⟨(a ++ b).toArray⟩ := by
    apply ByteArray.ext
    simp
  unfold strL
  have h' : ¬ 9223372036854775807 < a.length + b.length := by omega
  go_simp
theorem rOk_calls (W : Nat) (hW : W = 1 ∨ W = 2 ∨ W = 4) (w : World) : Calls Try.prog 62 #[.int .i64 (W : Int)] w fun e w' => e = .returned (.bool true) ∧ w = w' := by
  rcases hW with rfl | rfl | rfl <;>
  · go_enter Try.func62, Try.ntmps62
    go_wp2
    go_ret
    exact ⟨rfl, rfl⟩
theorem limit_calls (W : Nat) (hW : W = 1 ∨ W = 2 ∨ W = 4) (w : World) : Calls Try.prog 64 #[.int .i64 (W : Int)] w fun e w' => e = .returned (.int .i64 ((256 ^ W : Nat) : Int)) ∧ w = w' := by
  have h8 : W ≤ 4 := by omega
  have h8' : ((W : Int) == 8) = false := by simp; omega
  go_enter Try.func64, Try.ntmps64
  go_wp2
  go_loopw [3, 4] (fun n i wr => ∃ k : Nat, k ≤ W ∧ i = .int .i64 k ∧ n = .int .i64 ((256 ^ k : Nat) : Int) ∧ w = wr) (fun _ i _ => W - (intOf i).toNat)
  case atStart => exact ⟨0, Nat.zero_le _, rfl, rfl, rfl⟩
  case round =>
    obtain ⟨k, hk, rfl, rfl, rfl⟩ := hrel
    by_cases hlt : k < W
    · have hp : 256 ^ k ≤ 16777216 := by
        have : k ≤ 3 := by omega
        have e : k = 0 ∨ k = 1 ∨ k = 2 ∨ k = 3 := by omega
        rcases e with rfl | rfl | rfl | rfl <;> decide
      have Hp : Hid (256 ^ (k + 1) = 256 ^ k * 256) := hidIt (Nat.pow_succ 256 k)
      generalize 256 ^ k = P at *
      go_wp2
      go_roundw
      case rel => exact ⟨k + 1, by omega, by go_num, by rw [Hp.out]; go_num, trivial⟩
      case measure => simp [intOf]; omega
    · have hke : k = W := by omega
      subst hke
      generalize hP : 256 ^ k = P at *
      go_wp2
      go_ret
      exact ⟨by rw [hP]; rfl, rfl⟩
set_option maxRecDepth 100000 in
theorem rNum_calls (W n : Nat) (hW : W = 1 ∨ W = 2 ∨ W = 4) (hn : n < 256 ^ W) (w : World) : Calls Try.prog 52 #[.int .i64 (n : Int), .int .i64 (W : Int)] w fun e w' => e = .returned (strL (numL W n)) ∧ Fr [] w w' := by
  have hb : 256 ^ W ≤ 4294967296 := by rcases hW with rfl | rfl | rfl <;> decide
  have kL := limit_calls W hW w
  generalize hP : 256 ^ W = P at *
  go_enter Try.func52, Try.ntmps52
  go_wp2_with fail
  refine (rOk_calls W hW _).mono ?_
  rintro e w1 ⟨rfl, rfl⟩
  go_wp2_with fail
  refine kL.mono ?_
  rintro e w1 ⟨rfl, rfl⟩
  go_wp2_with fail
  go_loopw [0, 5, 6] (fun m out i wr => ∃ k : Nat, k ≤ W ∧ i = .int .i64 k ∧ m = .int .i64 ((n / 256 ^ k : Nat) : Int) ∧ out = strL (numL k n) ∧ Fr [] w wr) (fun _ _ i _ => W - (intOf i).toNat)
  case atStart => exact ⟨0, Nat.zero_le _, rfl, by simp, rfl, Fr.refl _ _⟩
  case round =>
    obtain ⟨k, hk, rfl, rfl, rfl, hF⟩ := hrel
    by_cases hlt : k < W
    · have Hn := hidIt (numL_cons k n)
      have Hd : Hid (n / 256 ^ (k + 1) = n / 256 ^ k / 256) := hidIt (by rw [Nat.div_div_eq_div_mul, Nat.pow_succ])
      have hm : n / 256 ^ k ≤ 4294967296 := Nat.le_trans (Nat.div_le_self _ _) (by omega)
      generalize n / 256 ^ k = m at *
      have hol : (numL k n).length ≤ 4 := by rw [numL_length]; omega
      generalize numL k n = out at *
      have hbc : byC (UInt8.ofNat m) = [.int .u8 ((m : Int) % 256)] := by simp [byC, UInt8.toNat_ofNat']
      have hcv := conv_str (SlF.one (f := byC) (x := UInt8.ofNat m) (t := 5) (w := wr.alloc (.cells #[.int .u8 ((m : Int) % 256)] 5)) (b := wr.heap.size) (by rw [hbc]; exact Blk.new wr [_] _))
      have had : ∀ X : World, (binOp .add 9 (strL [UInt8.ofNat m]) (strL out)).run Try.prog X = .ok (strL (UInt8.ofNat m :: out)) X := fun X => add_str _ _ X (by simp; omega)
      go_wp2
      go_roundw
      case rel => exact ⟨k + 1, by omega, by go_num, by rw [Hd.out]; go_num, by rw [Hn.out], hF.alloc _⟩
      case measure => simp [intOf]; omega
    · have hke : k = W := by omega
      subst hke
      go_wp2
      go_ret
      exact ⟨rfl, hF⟩
end Go.Proofs.Ytfmolbgfhchdkaa
