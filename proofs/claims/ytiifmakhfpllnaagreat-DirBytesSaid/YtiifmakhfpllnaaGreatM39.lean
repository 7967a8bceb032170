/-
  ref01: Num, limit (widths 1, 2, 4).
-/
import Derived.Test.YtiifmakhfpllnaaGreatM09
import Derived.Test.YtiifmakhfpllnaaGreatM23
import Derived.Test.YtiifmakhfpllnaaGreatM16
namespace Go.Proofs.YtiifmakhfpllnaaGreat
open Go.RowKit Go.Maps

theorem numL_cons : ∀ (i n : Nat), numL (i + 1) n = UInt8.ofNat (n / 256 ^ i) :: numL i n
  | 0, n => by simp [numL]
  | i + 1, n => by
    have ih := numL_cons i (n / 256)
    show numL (i + 1) (n / 256) ++ [UInt8.ofNat n] = _
    rw [ih, Nat.div_div_eq_div_mul, Nat.mul_comm, ← Nat.pow_succ]
    rfl
theorem add_str (a b : List UInt8) (X : World) (h : a.length + b.length ≤ 9223372036854775807) : (binOp .add 9 (strL a) (strL b)).run Tryz.prog X = .ok (strL (a ++ b)) X := by
  have e : ((⟨a.toArray⟩ : ByteArray) ++ ⟨b.toArray⟩) = ⟨(a ++ b).toArray⟩ := by
    apply ByteArray.ext
    simp
  unfold strL
  have h' : ¬ 9223372036854775807 < a.length + b.length := by omega
  go_simp
theorem rOk_calls (W : Nat) (hW : W = 1 ∨ W = 2 ∨ W = 4) (w : World) : Calls Tryz.prog 68 #[.int .i64 (W : Int)] w fun e w' => e = .returned (.bool true) ∧ w = w' := by
  rcases hW with rfl | rfl | rfl <;>
  · go_enter Tryz.func68, Tryz.ntmps68
    go_wp2
    go_ret
    exact ⟨rfl, rfl⟩
theorem limit_calls (W : Nat) (hW : W = 1 ∨ W = 2 ∨ W = 4) (w : World) : Calls Tryz.prog 85 #[.int .i64 (W : Int)] w fun e w' => e = .returned (.int .i64 ((256 ^ W : Nat) : Int)) ∧ w = w' := by
  have h8 : W ≤ 4 := by omega
  have h8' : ((W : Int) == 8) = false := by simp; omega
  go_enter Tryz.func85, Tryz.ntmps85
  go_wp2
  go_loopw [3, 4] (fun n i wr => ∃ k : Nat, k ≤ W ∧ i = .int .i64 k ∧ n = .int .i64 ((256 ^ k : Nat) : Int) ∧ w = wr) (fun _ i _ => W - (intOf i).toNat)
  case atStart => exact ⟨0, Nat.zero_le _, rfl, rfl, rfl⟩
  case round =>
    obtain ⟨k, hk, rfl, rfl, rfl⟩ := hrel
    by_cases hlt : k < W
    · have hp : 256 ^ k ≤ 16777216 := by
        have : k ≤ 3 := by omega
        have e : k = 0 ∨ k = 1 ∨ k = 2 ∨ k = 3 := by omega
        rcases e with rfl | rfl | rfl | rfl <;> decide
      have Hp : Hid (256 ^ (k + 1) = 256 ^ k * 256) := hidIt (Nat.pow_succ 256 k)
      generalize 256 ^ k = P at *
      go_wp2
      go_roundw
      case rel => exact ⟨k + 1, by omega, by go_num, by rw [Hp.out]; go_num, trivial⟩
      case measure => simp [intOf]; omega
    · have hke : k = W := by omega
      subst hke
      generalize hP : 256 ^ k = P at *
      go_wp2
      go_ret
      exact ⟨by rw [hP]; rfl, rfl⟩
set_option maxRecDepth 100000 in
theorem rNum_calls (W n : Nat) (hW : W = 1 ∨ W = 2 ∨ W = 4) (hn : n < 256 ^ W) (w : World) : Calls Tryz.prog 52 #[.int .i64 (n : Int), .int .i64 (W : Int)] w fun e w' => e = .returned (strL (numL W n)) ∧ Fr [] w w' := by
  have hb : 256 ^ W ≤ 4294967296 := by rcases hW with rfl | rfl | rfl <;> decide
  have kL := limit_calls W hW w
  generalize hP : 256 ^ W = P at *
  go_enter Tryz.func52, Tryz.ntmps52
  go_wp2_with fail
  refine (rOk_calls W hW _).mono ?_
  rintro e w1 ⟨rfl, rfl⟩
  go_wp2_with fail
  refine kL.mono ?_
  rintro e w1 ⟨rfl, rfl⟩
  go_wp2_with fail
  go_loopw [0, 5, 6] (fun m out i wr => ∃ k : Nat, k ≤ W ∧ i = .int .i64 k ∧ m = .int .i64 ((n / 256 ^ k : Nat) : Int) ∧ out = strL (numL k n) ∧ Fr [] w wr) (fun _ _ i _ => W - (intOf i).toNat)
  case atStart => exact ⟨0, Nat.zero_le _, rfl, by simp, rfl, Fr.refl _ _⟩
  case round =>
    obtain ⟨k, hk, rfl, rfl, rfl, hF⟩ := hrel
    by_cases hlt : k < W
    · have Hn := hidIt (numL_cons k n)
      have Hd : Hid (n / 256 ^ (k + 1) = n / 256 ^ k / 256) := hidIt (by rw [Nat.div_div_eq_div_mul, Nat.pow_succ])
      have hm : n / 256 ^ k ≤ 4294967296 := Nat.le_trans (Nat.div_le_self _ _) (by omega)
      generalize n / 256 ^ k = m at *
      have hol : (numL k n).length ≤ 4 := by rw [numL_length]; omega
      generalize numL k n = out at *
      have hbc : byC (UInt8.ofNat m) = [.int .u8 ((m : Int) % 256)] := by simp [byC, UInt8.toNat_ofNat']
      have hcv := conv_str (SlF.one (f := byC) (x := UInt8.ofNat m) (t := 5) (w := wr.alloc (.cells #[.int .u8 ((m : Int) % 256)] 5)) (b := wr.heap.size) (by rw [hbc]; exact Blk.new wr [_] _))
      have had : ∀ X : World, (binOp .add 9 (strL [UInt8.ofNat m]) (strL out)).run Tryz.prog X = .ok (strL (UInt8.ofNat m :: out)) X := fun X => add_str _ _ X (by simp; omega)
      go_wp2
      go_roundw
      case rel => exact ⟨k + 1, by omega, by go_num, by rw [Hd.out]; go_num, by rw [Hn.out], hF.alloc _⟩
      case measure => simp [intOf]; omega
    · have hke : k = W := by omega
      subst hke
      go_wp2
      go_ret
      exact ⟨rfl, hF⟩
end Go.Proofs.YtiifmakhfpllnaaGreat

namespace Go.Proofs.YtiifmakhfpllnaaGreat
open Go.RowKit Go.Maps
attribute [local go_sem] len_str store_str cells_str

theorem buildReader (l : List UInt8) (w : World) : (Instr.build 69 #[(0, strL l)]).run Tryz.prog w = .ok (.agg #[strL l, .int .i64 0]) w := by kernel_rfl
theorem wpList_buildR {ops : Array Oper} {rest : List Oper} {o : Oper} {a : Act} {Q : Exit → Act → World → Prop} {w : World} (hg : o.guard = none) (x : Operand) (ho : o.op = .build 69 #[(0, x)]) (l : List UInt8) (hx : a.eval x = strL l)
    (h : wpList Tryz.prog ops Q rest (a.put o.dst (.agg #[strL l, .int .i64 0])) w) : wpList Tryz.prog ops Q (o :: rest) a w :=
  wpList_plain hg fun K hK => by
    unfold Oper.wp execOp
    simp only [ho, List.map_toArray, List.map_cons, List.map_nil, hx, Sem.run_bind, buildReader, Result.andThen_ok, Sem.run_pure]
    exact hK _ _ h
set_option maxRecDepth 100000 in
set_option maxHeartbeats 1600000 in
theorem ReadNum_calls (W : Nat) (hW : W = 1 ∨ W = 2 ∨ W = 4) (l : List UInt8) (e : Int) (w : World) :
    Calls Tryz.prog 28 #[.agg #[strL l, .int .i64 e], .int .i64 (W : Int)] w fun e' w' => e' = .returned (.tuple #[.agg #[strL (rdNum l e W).1, .int .i64 (rdNum l e W).2.1], .int .i64 ((rdNum l e W).2.2 : Int)]) ∧ Fr [] w w' := by
  by_cases he : e = 0
  · subst he
    by_cases hlt : l.length < W
    · have hlt' : (l.length : Int) < (W : Int) := by omega
      have er : rdNum l 0 W = (l, 10, 0) := by simp [rdNum, hlt]
      rw [er]
      clear er hlt
      go_enter Tryz.func28, Tryz.ntmps28
      go_wp2_with fail
      refine (rOk_calls W hW _).mono ?_
      rintro e w1 ⟨rfl, rfl⟩
      go_wp2
      exact bodyPost_ret (v := .tuple #[.agg #[strL l, .int .i64 10], .int .i64 0]) (by simp [results, Tryz.results28, go_sem]) rfl ⟨rfl, by first | exact (((Fr.refl [] w).alloc _).alloc _) | exact Fr.of_below (by simp)⟩
    · have hge : W ≤ l.length := by omega
      have hlt' : ¬ (l.length : Int) < (W : Int) := by omega
      have er : rdNum l 0 W = (l.drop W, 0, valL (l.take W)) := by simp [rdNum, hlt]
      have h8b : ((W : Int) == 8) = false := by simp; omega
      have hto := fun X => to_str hge X
      have hfrom := fun X => from_str hge X
      have hat : ∀ k X, k < W → (Instr.index 9 (strL (l.take W)) (.int .i64 (k : Int))).run Tryz.prog X = .ok (.int .u8 (((l.take W).getD k 0).toNat : Int)) X := fun k X hk => at_str (by simp; omega) X
      have hxl : (l.take W).length = W := by simp; omega
      have hW4 : W ≤ 4 := by omega
      rw [er]
      clear er hlt
      generalize l.take W = x at *
      generalize l.drop W = r at *
      obtain ⟨rs, hrs⟩ : ∃ rs, strL r = Value.string rs := ⟨_, rfl⟩
      rw [hrs] at hfrom ⊢
      clear hrs
      go_enter Tryz.func28, Tryz.ntmps28
      go_wp2_with fail
      refine (rOk_calls W hW _).mono ?_
      rintro e w1 ⟨rfl, rfl⟩
      go_wp2
      go_loopw [7, 8] (fun u i wr => ∃ k : Nat, k ≤ W ∧ i = .int .i64 k ∧ u = .int .i64 (valL (x.take k) : Int) ∧ Blk wr w.heap.size [(.string rs), .int .i64 0] 69 ∧ Blk wr (w.heap.size + 1) [strL [], .int .i64 0] 69 ∧ Fr [] w wr) (fun _ i _ => W - (intOf i).toNat)
      case atStart => exact ⟨0, Nat.zero_le _, rfl, rfl, (Blk.new w [_, _] _).alloc _, Blk.new' (by simp) [_, _] _, ((Fr.refl [] w).alloc _).alloc _⟩
      case round =>
        obtain ⟨k, hk, rfl, rfl, B2, B4, hF⟩ := hrel
        by_cases hlt : k < W
        · have hi := fun X => hat k X hlt
          have Hst : Hid (x.take (k + 1) = x.take k ++ [x.getD k 0]) := hidIt (by
            have hlt2 : k < x.length := by omega
            have hg : x[k] = x.getD k 0 := by rw [List.getD_eq_getElem?_getD, List.getElem?_eq_getElem hlt2]; rfl
            rw [List.take_succ_eq_append_getElem hlt2, hg])
          have hvl := valL_lt (x.take k)
          have htk : (x.take k).length = k := by simp; omega
          rw [htk] at hvl
          have hk3 : k ≤ 3 := by omega
          have hv3 : valL (x.take k) < 16777216 := Nat.lt_of_lt_of_le hvl (by have := Nat.pow_le_pow_right (n := 256) (by omega) hk3; exact this)
          have hbyte := (x.getD k 0).toNat_lt
          generalize x.getD k 0 = c at *
          generalize hvv : valL (x.take k) = V at *
          generalize hcc : c.toNat = C at *
          clear hat hvl htk
          go_wp2
          go_roundw
          case rel => exact ⟨k + 1, by omega, by go_num, by rw [Hst.out, valL_snoc, hvv, hcc]; go_num, B2, B4, hF⟩
          case measure => simp [intOf]; omega
        · have hke : k = W := by omega
          subst hke
          rw [List.take_of_length_le (by omega)]
          have c2 := B2.cell
          have c4 := B4.cell
          have f4 := B4.frozen
          have e4 := ((B4.setCell 0 (.string rs)).setCell 1 (.int .i64 0)).cell
          go_wp2
          exact bodyPost_ret (v := .tuple #[.agg #[.string rs, .int .i64 0], .int .i64 (valL x : Int)]) (by simp [results, Tryz.results28, go_sem, e4]) rfl ⟨rfl, (hF.setCell (.inr (by simp)) _).setCell (.inr (by simp)) _⟩
  · have he' : (e != 0) = true := by simpa using he
    have er : rdNum l e W = (l, e, 0) := by simp [rdNum, he]
    rw [er]
    clear er he
    go_enter Tryz.func28, Tryz.ntmps28
    go_wp2
    exact bodyPost_ret (v := .tuple #[.agg #[strL l, .int .i64 e], .int .i64 0]) (by simp [results, Tryz.results28, go_sem]) rfl ⟨rfl, by first | exact (((Fr.refl [] w).alloc _).alloc _) | exact Fr.of_below (by simp)⟩
end Go.Proofs.YtiifmakhfpllnaaGreat
