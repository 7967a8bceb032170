/-
  ref01: ReadNum.
-/
import Derived.Test.YtfmolbgfhchdkaaOctN
import Derived.Test.YtfmolbgfhchdkaaOctD
import Derived.Test.YtfmolbgfhchdkaaStr
namespace Go.Proofs.Ytfmolbgfhchdkaa
open Go.RowKit Go.Maps
attribute [local go_sem] len_str store_str cells_str

theorem buildReader (l : List UInt8) (w : World) : (Instr.build 85 #[(0, strL l)]).run Try.prog w = .ok (.agg #[strL l, .int .i64 0]) w := by kernel_rfl
theorem wpList_buildR {ops : Array Oper} {rest : List Oper} {o : Oper} {a : Act} {Q : Exit → Act → World → Prop} {w : World} (hg : o.guard = none) (x : Operand) (ho : o.op = .build 85 #[(0, x)]) (l : List UInt8) (hx : a.eval x = strL l)
    (h : wpList Try.prog ops Q rest (a.put o.dst (.agg #[strL l, .int .i64 0])) w) : wpList Try.prog ops Q (o :: rest) a w :=
  wpList_plain hg fun K hK => by
    unfold Oper.wp execOp
    simp only [ho, List.map_toArray, List.map_cons, List.map_nil, hx, Sem.run_bind, buildReader, Result.andThen_ok, Sem.run_pure]
    exact hK _ _ h
set_option maxRecDepth 100000 in
set_option maxHeartbeats 1600000 in
theorem ReadNum_calls (W : Nat) (hW : W = 1 ∨ W = 2 ∨ W = 4) (l : List UInt8) (e : Int) (w : World) :
    Calls Try.prog 50 #[.agg #[strL l, .int .i64 e], .int .i64 (W : Int)] w fun e' w' => e' = .returned (.tuple #[.agg #[strL (rdNum l e W).1, .int .i64 (rdNum l e W).2.1], .int .i64 ((rdNum l e W).2.2 : Int)]) ∧ Fr [] w w' := by
  by_cases he : e = 0
  · subst he
    by_cases hlt : l.length < W
    · have hlt' : (l.length : Int) < (W : Int) := by omega
      have er : rdNum l 0 W = (l, 10, 0) := by simp [rdNum, hlt]
      rw [er]
      clear er hlt
      go_enter Try.func50, Try.ntmps50
      go_wp2_with fail
      refine (rOk_calls W hW _).mono ?_
      rintro e w1 ⟨rfl, rfl⟩
      go_wp2
      exact bodyPost_ret (v := .tuple #[.agg #[strL l, .int .i64 10], .int .i64 0]) (by simp [results, Try.results50, go_sem]) rfl ⟨rfl, by first | exact (((Fr.refl [] w).alloc _).alloc _) | exact Fr.of_below (by simp)⟩
    · have hge : W ≤ l.length := by omega
      have hlt' : ¬ (l.length : Int) < (W : Int) := by omega
      have er : rdNum l 0 W = (l.drop W, 0, valL (l.take W)) := by simp [rdNum, hlt]
      have h8b : ((W : Int) == 8) = false := by simp; omega
      have hto := fun X => to_str hge X
      have hfrom := fun X => from_str hge X
      have hat : ∀ k X, k < W → (Instr.index 9 (strL (l.take W)) (.int .i64 (k : Int))).run Try.prog X = .ok (.int .u8 (((l.take W).getD k 0).toNat : Int)) X := fun k X hk => at_str (by simp; omega) X
      have hxl : (l.take W).length = W := by simp; omega
      have hW4 : W ≤ 4 := by omega
      rw [er]
      clear er hlt
      generalize l.take W = x at *
      generalize l.drop W = r at *
      obtain ⟨rs, hrs⟩ : ∃ rs, strL r = Value.string rs := ⟨_, rfl⟩
      rw [hrs] at hfrom ⊢
      clear hrs
      go_enter Try.func50, Try.ntmps50
      go_wp2_with fail
      refine (rOk_calls W hW _).mono ?_
      rintro e w1 ⟨rfl, rfl⟩
      go_wp2
      go_loopw [7, 8] (fun u i wr => ∃ k : Nat, k ≤ W ∧ i = .int .i64 k ∧ u = .int .i64 (valL (x.take k) : Int) ∧ Blk wr w.heap.size [(.string rs), .int .i64 0] 85 ∧ Blk wr (w.heap.size + 1) [strL [], .int .i64 0] 85 ∧ Fr [] w wr) (fun _ i _ => W - (intOf i).toNat)
      case atStart => exact ⟨0, Nat.zero_le _, rfl, rfl, (Blk.new w [_, _] _).alloc _, Blk.new' (by simp) [_, _] _, ((Fr.refl [] w).alloc _).alloc _⟩
      case round =>
        obtain ⟨k, hk, rfl, rfl, B2, B4, hF⟩ := hrel
        by_cases hlt : k < W
        · have hi := fun X => hat k X hlt
          have Hst : Hid (x.take (k + 1) = x.take k ++ [x.getD k 0]) := hidIt (by
            have hlt2 : k < x.length := by omega
            have hg : x[k] = x.getD k 0 := by rw [List.getD_eq_getElem?_getD, List.getElem?_eq_getElem hlt2]; rfl
            rw [List.take_succ_eq_append_getElem hlt2, hg])
          have hvl := valL_lt (x.take k)
          have htk : (x.take k).length = k := by simp; omega
          rw [htk] at hvl
          have hk3 : k ≤ 3 := by omega
          have hv3 : valL (x.take k) < 16777216 := Nat.lt_of_lt_of_le hvl (by have := Nat.pow_le_pow_right (n := 256) (by omega) hk3; exact this)
          have hbyte := (x.getD k 0).toNat_lt
          generalize x.getD k 0 = c at *
          generalize hvv : valL (x.take k) = V at *
          generalize hcc : c.toNat = C at *
          clear hat hvl htk
          go_wp2
          go_roundw
          case rel => exact ⟨k + 1, by omega, by go_num, by rw [Hst.out, valL_snoc, hvv, hcc]; go_num, B2, B4, hF⟩
          case measure => simp [intOf]; omega
        · have hke : k = W := by omega
          subst hke
          rw [List.take_of_length_le (by omega)]
          have c2 := B2.cell
          have c4 := B4.cell
          have f4 := B4.frozen
          have e4 := ((B4.setCell 0 (.string rs)).setCell 1 (.int .i64 0)).cell
          go_wp2
          exact bodyPost_ret (v := .tuple #[.agg #[.string rs, .int .i64 0], .int .i64 (valL x : Int)]) (by simp [results, Try.results50, go_sem, e4]) rfl ⟨rfl, (hF.setCell (.inr (by simp)) _).setCell (.inr (by simp)) _⟩
  · have he' : (e != 0) = true := by simpa using he
    have er : rdNum l e W = (l, e, 0) := by simp [rdNum, he]
    rw [er]
    clear er he
    go_enter Try.func50, Try.ntmps50
    go_wp2
    exact bodyPost_ret (v := .tuple #[.agg #[strL l, .int .i64 e], .int .i64 0]) (by simp [results, Try.results50, go_sem]) rfl ⟨rfl, by first | exact (((Fr.refl [] w).alloc _).alloc _) | exact Fr.of_below (by simp)⟩
end Go.Proofs.Ytfmolbgfhchdkaa
