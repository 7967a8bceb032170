/-
  ref10: Encode.
-/
import Derived.Test.YtiifmakhfpllnaaGreatM19
import Derived.Test.YtiifmakhfpllnaaGreatM39
import Derived.Test.YtiifmakhfpllnaaGreatM16
import Derived.Test.YtiifmakhfpllnaaGreatM18
import Derived.Test.YtiifmakhfpllnaaGreatM12
namespace Go.Proofs.YtiifmakhfpllnaaGreat
open Go.RowKit Go.Maps
attribute [local go_sem] len_str

set_option maxRecDepth 100000 in
set_option maxHeartbeats 4000000 in
theorem rEncodeB_calls (S g : Nat) (u : Value) (l : List Bool) (w : World) (hu : SlB w u l) (hS : S ≤ 4096) (hg : g ≤ 64) (hl : l.length ≤ 4096) : Calls Tryz.prog 54 #[rb S g u] w fun e w' => e = .returned (strL (encB S g l)) ∧ Fr [] w w' := by
  obtain ⟨a, cap, rfl, hlc, hcm, _⟩ := hu.open
  have hfa := (Fr.refl [] w).alloc (.cells #[.int .i64 S, .int .i64 g, .slice a l.length cap] 74)
  have B1 := Blk.new w [.int .i64 S, .int .i64 g, .slice a l.length cap] 74
  have had0 : ∀ X : World, (binOp .add 9 (strL (numL 2 S)) (strL (numL 1 g))).run Tryz.prog X = .ok (strL (numL 2 S ++ numL 1 g)) X := fun X => add_str _ _ X (by simp [numL_length])
  have Henc : Hid (encB S g l = (numL 2 S ++ numL 1 g) ++ bodyB l (nbB l.length)) := hidIt rfl
  have hpl : (numL 2 S ++ numL 1 g).length = 3 := by simp [numL_length]
  unfold rb
  go_enter Tryz.func54, Tryz.ntmps54
  go_wp2_with fail
  have hfd := hfa.drew
  have B1d := B1.drew
  refine wp_region_G (Fr [] (w.alloc (.cells #[.int .i64 S, .int .i64 g, .slice a l.length cap] 74)).drew) [(true, 0), (true, 1), (true, 3), (true, 4), (false, 2), (false, 5), (true, 6), (true, 7)] (by as_aux_lemma => kernel_rfl) (by as_aux_lemma => kernel_rfl) (Fr.refl _ _) ?_
  simp only [inOrder, List.map_cons, List.map_nil, List.getD_cons_zero, List.getD_cons_succ]
  iterate 1
    refine wpG_pure fun K hK => ?_
    go_simp
    refine hK _ ?_
    clear hK K
  refine wpG_val (.int .i64 S) (by first | rfl | go_simp) (fun X hX => by have cc := (B1d.fr0 hX).cell; go_simp) ?_
  simp only [Act.put, List.setIfInBounds_toArray, List.set_cons_zero, List.set_cons_succ]
  iterate 1
    refine wpG_pure fun K hK => ?_
    go_simp
    refine hK _ ?_
    clear hK K
  refine wpG_val (.int .i64 g) (by first | rfl | go_simp) (fun X hX => by have cc := (B1d.fr0 hX).cell; go_simp) ?_
  simp only [Act.put, List.setIfInBounds_toArray, List.set_cons_zero, List.set_cons_succ]
  refine wpG_one fun K hK => ?_
  go_simp
  refine (rNum_calls 2 S (by omega) (by (show _ < 65536); omega) _).mono ?_
  rintro e w1 ⟨rfl, hf1⟩
  refine hK _ _ (hf1) ?_
  clear hK K
  refine wpG_one fun K hK => ?_
  go_simp
  refine (rNum_calls 1 g (by omega) (by (show _ < 256); omega) _).mono ?_
  rintro e w2 ⟨rfl, hf2⟩
  refine hK _ _ (hf1.trans0 hf2) ?_
  clear hK K
  iterate 2
    refine wpG_pure fun K hK => ?_
    go_simp
    refine hK _ ?_
    clear hK K
  refine wpG_end ?_
  have hF2 := (hfd.trans0 hf1).trans0 hf2
  replace B1 := (B1d.fr0 hf1).fr0 hf2
  clear hfa hfd B1d hf1 hf2
  go_wp2_with fail
  generalize numL 2 S ++ numL 1 g = pre at *
  clear had0
  go_loopw [3, 4] (fun o i wr => ∃ j A : Nat, Hid (A = 8 * j) ∧ j ≤ nbB l.length ∧ o = strL (pre ++ bodyB l j) ∧ i = .int .i64 (A : Int) ∧ Blk wr w.heap.size [.int .i64 S, .int .i64 g, .slice a l.length cap] 74 ∧ Fr [] w wr) (fun _ i _ => 10000 - (intOf i).toNat)
  case atStart => exact ⟨0, 0, rfl, Nat.zero_le _, by simp [bodyB], rfl, B1, hF2⟩
  case round =>
    clear B1 hF2
    obtain ⟨j, A, hA, hj, rfl, rfl, B1, hF⟩ := hrel
    have c := B1.cell
    have Hst := hidIt (bodyB_succ l j)
    have Hn1 : Hid (numL 1 (byV l j) = [UInt8.ofNat (byV l j)]) := hidIt rfl
    have hA4 : A ≤ 5000 := by have := hA.out; unfold nbB at hj; omega
    have Hv0 : Hid (valB (byF l j) 0 = 0) := hidIt rfl
    have Hvs : ∀ m, Hid (valB (byF l j) (m + 1) = valB (byF l j) m + (if l.getD (A + m) false then 2 ^ m else 0)) := fun m => hidIt (by rw [hA.out]; rfl)
    have Hvl := fun m => hidIt (valB_lt (byF l j) m)
    have Hbv : ∀ m, m ≤ 8 → (m = 8 ∨ A + m = l.length) → Hid (valB (byF l j) m = byV l j) := fun m hm h => hidIt (by
      rcases h with rfl | h
      · rfl
      · refine (valB_zero hm fun k hk => ?_).symm
        unfold byF
        rw [← hA.out, List.getD_eq_getElem?_getD, List.getElem?_eq_none (by omega)]
        rfl)
    have hol : (pre ++ bodyB l j).length ≤ 5000 := by rw [List.length_append, bodyB_length]; have := hA.out; omega
    generalize hBk : bodyB l j = Bk at *
    replace hBk := hidIt hBk
    generalize valB (byF l j) = VB at *
    by_cases hlt : A < l.length
    · have hlt' : (A : Int) < (l.length : Int) := by omega
      go_wp2_with fail
      go_loopw [5, 6, 7] (fun n b k wr2 => wr2 = wr ∧ ∃ m : Nat, m ≤ 8 ∧ A + m ≤ l.length ∧ n = .int .i64 ((VB m : Nat) : Int) ∧ b = .int .i64 ((2 ^ m : Nat) : Int) ∧ k = .int .i64 ((A + m : Nat) : Int)) (fun _ _ k _ => A + 8 - (intOf k).toNat)
      case atStart => exact ⟨rfl, 0, by omega, by omega, by rw [Hv0.out]; rfl, rfl, rfl⟩
      case round =>
        obtain ⟨rfl, m, hm, hml, rfl, rfl, rfl⟩ := hrel
        have hvl := (Hvl m).out
        by_cases hgo : m < 8 ∧ A + m < l.length
        · obtain ⟨hm8, hlm⟩ := hgo
          have hm8' : ((A + m : Nat) : Int) < (A : Int) + 8 := by omega
          have hlm' : ((A + m : Nat) : Int) < (l.length : Int) := by omega
          obtain ⟨b, off, rfl, hb, d0⟩ := SlB.at (SlF.fr0 hu hF) hlm
          have h2m : 2 ^ m ≤ 128 := Nat.le_trans (Nat.pow_le_pow_right (by omega) (by omega : m ≤ 7)) (by decide)
          have Hp : Hid (2 ^ (m + 1) = 2 ^ m + 2 ^ m) := hidIt (by rw [Nat.pow_succ]; omega)
          have hvs := Hvs m
          clear Hvs Hvl Hv0 Hbv
          generalize l.getD (A + m) false = q at *
          generalize VB m = V at *
          generalize 2 ^ m = D at *
          cases q
          · go_wp2
            go_roundw
            case rel => exact ⟨trivial, m + 1, by omega, by omega, by rw [hvs.out]; simp, by rw [Hp.out]; go_num, by go_num⟩
            case measure => simp [intOf]; omega
          · go_wp2
            go_roundw
            case rel => exact ⟨trivial, m + 1, by omega, by omega, by rw [hvs.out]; simp, by rw [Hp.out]; go_num, by go_num⟩
            case measure => simp [intOf]; omega
        · by_cases hm8 : m < 8
          · have hm8' : ((A + m : Nat) : Int) < (A : Int) + 8 := by omega
            have hlm' : ¬ ((A + m : Nat) : Int) < (l.length : Int) := by omega
            have hbv := (Hbv m hm (by omega)).out
            have hb256 : byV l j < 256 := byV_lt l j
            clear Hvs Hvl Hv0 Hbv
            rw [hbv]
            generalize byV l j = V at *
            have ha1 : ∀ X : World, (binOp .add 9 (strL (pre ++ Bk)) (strL (numL 1 V))).run Tryz.prog X = .ok (strL (pre ++ (Bk ++ numL 1 V))) X := fun X => by rw [← List.append_assoc]; exact add_str _ _ X (by rw [numL_length]; omega)
            go_wp2_with fail
            refine (rNum_calls 1 V (by omega) hb256 _).mono ?_
            rintro e w4 ⟨rfl, hf4⟩
            go_wp2
            go_roundw
            case rel => exact ⟨j + 1, A + 8, by have := hA.out; exact hidIt (by omega), by have := hA.out; unfold nbB; omega, by rw [Hst.out, Hn1.out], by go_num, B1.fr0 hf4, hF.trans0 hf4⟩
            case measure => simp [intOf]; omega
          · have hm8' : ¬ ((A + m : Nat) : Int) < (A : Int) + 8 := by omega
            have hbv := (Hbv m hm (by omega)).out
            have hb256 : byV l j < 256 := byV_lt l j
            clear Hvs Hvl Hv0 Hbv
            rw [hbv]
            generalize byV l j = V at *
            have ha1 : ∀ X : World, (binOp .add 9 (strL (pre ++ Bk)) (strL (numL 1 V))).run Tryz.prog X = .ok (strL (pre ++ (Bk ++ numL 1 V))) X := fun X => by rw [← List.append_assoc]; exact add_str _ _ X (by rw [numL_length]; omega)
            go_wp2_with fail
            refine (rNum_calls 1 V (by omega) hb256 _).mono ?_
            rintro e w4 ⟨rfl, hf4⟩
            go_wp2
            go_roundw
            case rel => exact ⟨j + 1, A + 8, by have := hA.out; exact hidIt (by omega), by have := hA.out; unfold nbB; omega, by rw [Hst.out, Hn1.out], by go_num, B1.fr0 hf4, hF.trans0 hf4⟩
            case measure => simp [intOf]; omega
    · have hlt' : ¬ (A : Int) < (l.length : Int) := by omega
      have hje : Hid (j = nbB l.length) := hidIt (by have := hA.out; unfold nbB at hj ⊢; omega)
      go_wp2
      go_ret
      exact ⟨by rw [Henc.out, ← hje.out, hBk.out]; rfl, hF⟩
end Go.Proofs.YtiifmakhfpllnaaGreat
