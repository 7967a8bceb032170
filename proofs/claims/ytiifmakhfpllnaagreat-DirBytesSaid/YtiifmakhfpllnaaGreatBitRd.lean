/-
  ref10: Decode.
-/
import Derived.Test.YtiifmakhfpllnaaGreatM41
import Derived.Test.YtiifmakhfpllnaaGreatBitEr
import Derived.Test.YtiifmakhfpllnaaGreatM39
import Derived.Test.YtiifmakhfpllnaaGreatM13
namespace Go.Proofs.YtiifmakhfpllnaaGreat
open Go.RowKit Go.Maps
attribute [local go_sem] len_str store_str cells_str guard_str

theorem decP_step {bs : List UInt8} {n m : Nat} : decP bs n (m + 1) = (decP bs n m).set m (bitB bs m) := by
  cases h : bitB bs m with
  | true => exact decP_set h
  | false =>
    rw [decP_out h]
    apply List.ext_getElem
    · simp
    · intro i h1 h2
      rw [List.getElem_set]
      by_cases e : m = i
      · subst e
        rw [if_pos rfl]
        simp [decP, h]
      · rw [if_neg e]
def rbDecPost (w : World) (bs : List UInt8) (e : Ending) (w' : World) : Prop :=
  (∃ S g l u, goodB S g l ∧ encB S g l = bs ∧ e = .returned (.tuple #[rb S g u, .bool true]) ∧ RefB w' (rb S g u) S g l ∧ Fr [] w w') ∨
    ((∀ S g l, goodB S g l → encB S g l ≠ bs) ∧ e = .returned (.tuple #[z0, .bool false]) ∧ Fr [] w w')
set_option maxRecDepth 100000 in
set_option maxHeartbeats 3200000 in
theorem rbDec_no (bs : List UInt8) (w : World) (l1 l2 : List UInt8) (e1 e2 : Int) (S g : Nat) (h1 : rdNum bs 0 2 = (l1, e1, S)) (h2 : rdNum l1 e1 1 = (l2, e2, g)) (hno : okNew S g = false ∨ e2 = 10)
    (Hno : Hid (∀ S g l, goodB S g l → encB S g l ≠ bs)) : Calls Tryz.prog 30 #[strL bs] w (rbDecPost w bs) := by
  have kN1 := fun X => ReadNum_calls 2 (by omega) bs 0 X
  have kN2 := fun X => ReadNum_calls 1 (by omega) l1 e1 X
  rw [h1] at kN1
  rw [h2] at kN2
  clear h1 h2
  simp only at kN1 kN2
  have B2 := Blk.new w [.int .i64 0, .int .i64 0, .slice none 0 0] 74
  have hfa := (Fr.refl [] w).alloc (.cells #[.int .i64 0, .int .i64 0, .slice none 0 0] 74)
  cases hn : okNew S g with
  | false =>
    go_enter Tryz.func30, Tryz.ntmps30
    go_wp2_with (refine wpList_buildR rfl _ rfl _ rfl ?_)
    refine (kN1 _).mono ?_
    rintro e w1 ⟨rfl, hf1⟩
    have B4 := Blk.new w1 [strL l1, .int .i64 e1] 69
    have hf4 := (Fr.refl [] w1).alloc (.cells #[strL l1, .int .i64 e1] 69)
    have c4 := B4.cell
    go_wp2_with fail
    refine (kN2 _).mono ?_
    rintro e w2 ⟨rfl, hf2⟩
    have B2a := (B2.fr0 hf1).fr0 (hf4.trans0 hf2)
    have B4a := B4.fr0 hf2
    have c4a := B4a.cell
    have f4a := B4a.frozen
    have hne : w.heap.size ≠ w1.heap.size := by have := hf1.size; simp at this; omega
    have hsz1 : w.heap.size + 1 ≤ w1.heap.size := by have := hf1.size; simp at this; omega
    have hF2 := ((hfa.trans0 hf1).trans0 hf4).trans0 hf2
    have B4b := (B4a.setCell 0 (strL l2)).setCell 1 (.int .i64 e2)
    have B2b := (B2a.other (p := ⟨w1.heap.size, 0, none⟩) hne (strL l2)).other (p := ⟨w1.heap.size, 1, none⟩) hne (.int .i64 e2)
    have hF2b := hF2.trans (Fr.set2 w2 w1.heap.size (strL l2) (.int .i64 e2)) (fun x hx hl => by simp at hx; omega)
    clear B2a B4a B2 B4 c4 hf1 hf2 hf4 hfa hF2
    go_wp2_with fail
    generalize (w2.setCell ⟨w1.heap.size, 0, none⟩ (strL l2)).setCell ⟨w1.heap.size, 1, none⟩ (.int .i64 e2) = W3 at *
    clear c4a f4a
    refine (rNew_no S g _ hn).mono ?_
    rintro e w3 ⟨rfl, hf3⟩
    unfold z0
    have hB7 := (Fr.refl [] w3).alloc (.cells #[.int .i64 0, .int .i64 0, .slice none 0 0] 74)
    have B2c := B2b.fr0 (hf3.trans0 hB7)
    have hF3 := hF2b.trans0 (hf3.trans0 hB7)
    have c2 := B2c.cell
    have f2 := B2c.frozen
    have l2 := B2c.lt
    have e2 := (((B2c.setCell 0 (.int .i64 0)).setCell 1 (.int .i64 0)).setCell 2 (.slice none 0 0)).cell
    go_wp2
    exact bodyPost_ret (v := .tuple #[z0, .bool false]) (by simp [results, Tryz.results30, go_sem, e2, z0]) rfl (.inr ⟨Hno.out, rfl, ((hF3.setCell (.inr (by simp)) _).setCell (.inr (by simp)) _).setCell (.inr (by simp)) _⟩)
  | true =>
    have he2 : e2 = 10 := by
      rcases hno with h | h
      · rw [hn] at h; cases h
      · exact h
    subst he2
    have hp2 : S ≤ 4096 ∧ pow2 (g : Int) = true := by
      simp [okNew, okSec] at hn
      exact ⟨by omega, hn.2⟩
    go_enter Tryz.func30, Tryz.ntmps30
    go_wp2_with (refine wpList_buildR rfl _ rfl _ rfl ?_)
    refine (kN1 _).mono ?_
    rintro e w1 ⟨rfl, hf1⟩
    have B4 := Blk.new w1 [strL l1, .int .i64 e1] 69
    have hf4 := (Fr.refl [] w1).alloc (.cells #[strL l1, .int .i64 e1] 69)
    have c4 := B4.cell
    go_wp2_with fail
    refine (kN2 _).mono ?_
    rintro e w2 ⟨rfl, hf2⟩
    have B2a := (B2.fr0 hf1).fr0 (hf4.trans0 hf2)
    have B4a := B4.fr0 hf2
    have c4a := B4a.cell
    have f4a := B4a.frozen
    have hne : w.heap.size ≠ w1.heap.size := by have := hf1.size; simp at this; omega
    have hsz1 : w.heap.size + 1 ≤ w1.heap.size := by have := hf1.size; simp at this; omega
    have hF2 := ((hfa.trans0 hf1).trans0 hf4).trans0 hf2
    have B4b := (B4a.setCell 0 (strL l2)).setCell 1 (.int .i64 10)
    have B2b := (B2a.other (p := ⟨w1.heap.size, 0, none⟩) hne (strL l2)).other (p := ⟨w1.heap.size, 1, none⟩) hne (.int .i64 10)
    have hF2b := hF2.trans (Fr.set2 w2 w1.heap.size (strL l2) (.int .i64 10)) (fun x hx hl => by simp at hx; omega)
    clear B2a B4a B2 B4 c4 hf1 hf2 hf4 hfa hF2
    go_wp2_with fail
    generalize (w2.setCell ⟨w1.heap.size, 0, none⟩ (strL l2)).setCell ⟨w1.heap.size, 1, none⟩ (.int .i64 10) = W3 at *
    clear c4a f4a
    refine (rNew_yes S g _ hp2.1 hp2.2).mono ?_
    rintro e w3 ⟨v, rfl, hown, hf3⟩
    obtain ⟨av, cv, rfl, _, _, _⟩ := Sl.of_owns hown
    unfold rb
    have hB7 := (Fr.refl [] w3).alloc (.cells #[.int .i64 S, .int .i64 g, .slice av (gran S g) cv] 74)
    have B2c := B2b.fr0 (hf3.trans0 hB7)
    have B4c := B4b.fr0 (hf3.trans0 hB7)
    have hF3 := hF2b.trans0 (hf3.trans0 hB7)
    have c2 := B2c.cell
    have c4 := B4c.cell
    have f2 := B2c.frozen
    have l2' := B2c.lt
    have l4' := B4c.lt
    have e2 := (((B2c.setCell 0 (.int .i64 0)).setCell 1 (.int .i64 0)).setCell 2 (.slice none 0 0)).cell
    go_wp2
    exact bodyPost_ret (v := .tuple #[z0, .bool false]) (by simp [results, Tryz.results30, go_sem, e2, z0]) rfl (.inr ⟨Hno.out, rfl, ((hF3.setCell (.inr (by simp)) _).setCell (.inr (by simp)) _).setCell (.inr (by simp)) _⟩)
set_option maxRecDepth 100000 in
set_option maxHeartbeats 6400000 in
theorem rbDec_yes (bs : List UInt8) (w : World) (h3 : 3 ≤ bs.length) (S g : Nat) (hS : valL (bs.take 2) = S) (hg : valL ((bs.drop 2).take 1) = g) (hn : okNew S g = true) :
    Calls Tryz.prog 30 #[strL bs] w (rbDecPost w bs) := by
  obtain ⟨h1, h2⟩ := bhead_long h3
  have kN1 := fun X => ReadNum_calls 2 (by omega) bs 0 X
  have kN2 := fun X => ReadNum_calls 1 (by omega) (bs.drop 2) 0 X
  rw [h1] at kN1
  rw [h2] at kN2
  simp only at kN1 kN2
  rw [hS] at kN1
  rw [hg] at kN2
  have hst0 : rdSt bs 0 = (bs.drop 3, 0) := by unfold rdSt; rw [if_pos (by omega)]
  rw [hst0] at kN2
  simp only at kN2
  have hsg : S ≤ 4096 ∧ pow2 (g : Int) = true := by
    simp [okNew, okSec] at hn
    exact ⟨by omega, hn.2⟩
  have hgle := pow2_le hsg.2
  have hgr := gran_le hsg.1 (by omega : 0 < g)
  have Hgood : Hid (encB S g (decL bs (gran S g)) = bs → goodB S g (decL bs (gran S g))) := hidIt (fun _ => ⟨hsg.1, hsg.2, decL_length _ _⟩)
  have Hno : Hid (encB S g (decL bs (gran S g)) ≠ bs → ∀ S g l, goodB S g l → encB S g l ≠ bs) := hidIt (fun hne S' g' l' hgd e => by
    obtain ⟨a1, a2, a3, a4⟩ := goodB_small hgd
    have e1 : S' = S := by rw [← hS, ← e, encB_S a1]
    have e2 : g' = g := by rw [← hg, ← e, encB_g (by omega)]
    subst e1; subst e2
    have e3 : decL bs (gran S' g') = l' := by rw [← hgd.2.2, ← e]; exact encB_dec
    rw [e3] at hne
    exact hne e)
  have Hbit : ∀ i, Hid (bitB bs i = (((bs.drop 3).getD (i / 8) 0).toNat / 2 ^ (i % 8) % 2 == 1)) := fun i => hidIt (by
    unfold bitB
    congr 4
    rw [List.getD_eq_getElem?_getD, List.getD_eq_getElem?_getD, List.getElem?_drop])
  have hdl := hidIt (decP_length bs (gran S g))
  have Hstep := fun m => hidIt (decP_step (bs := bs) (n := gran S g) (m := m))
  have Hall := hidIt (decP_all (bs := bs) (n := gran S g) (m := gran S g) (Nat.le_refl _))
  have H0 := hidIt (decP_zero bs (gran S g))
  have Hdl := hidIt (decL_length bs (gran S g))
  have B2 := Blk.new w [.int .i64 0, .int .i64 0, .slice none 0 0] 74
  have hfa := (Fr.refl [] w).alloc (.cells #[.int .i64 0, .int .i64 0, .slice none 0 0] 74)
  clear h1 h2 hS hg hst0 hn
  generalize hl1 : bs.drop 2 = l1 at *
  clear hl1
  generalize bs.drop 3 = l2 at *
  go_enter Tryz.func30, Tryz.ntmps30
  go_wp2_with (refine wpList_buildR rfl _ rfl _ rfl ?_)
  refine (kN1 _).mono ?_
  rintro e w1 ⟨rfl, hf1⟩
  have B4 := Blk.new w1 [strL l1, .int .i64 0] 69
  have hf4 := (Fr.refl [] w1).alloc (.cells #[strL l1, .int .i64 0] 69)
  have c4 := B4.cell
  go_wp2_with fail
  refine (kN2 _).mono ?_
  rintro e w2 ⟨rfl, hf2⟩
  have B2a := (B2.fr0 hf1).fr0 (hf4.trans0 hf2)
  have B4a := B4.fr0 hf2
  have c4a := B4a.cell
  have f4a := B4a.frozen
  have hne : w.heap.size ≠ w1.heap.size := by have := hf1.size; simp at this; omega
  have hsz1 : w.heap.size + 1 ≤ w1.heap.size := by have := hf1.size; simp at this; omega
  have hF2 := ((hfa.trans0 hf1).trans0 hf4).trans0 hf2
  have B4b := (B4a.setCell 0 (strL l2)).setCell 1 (.int .i64 0)
  have B2b := (B2a.other (p := ⟨w1.heap.size, 0, none⟩) hne (strL l2)).other (p := ⟨w1.heap.size, 1, none⟩) hne (.int .i64 0)
  have hF2b := hF2.trans (Fr.set2 w2 w1.heap.size (strL l2) (.int .i64 0)) (fun x hx hl => by simp at hx; omega)
  clear B2a B4a B2 B4 c4 hf1 hf2 hf4 hfa hF2
  go_wp2_with fail
  generalize (w2.setCell ⟨w1.heap.size, 0, none⟩ (strL l2)).setCell ⟨w1.heap.size, 1, none⟩ (.int .i64 0) = W3 at *
  clear c4a f4a
  refine (rNew_yes S g _ hsg.1 hsg.2).mono ?_
  rintro e w3 ⟨v, rfl, hown, hf3⟩
  obtain ⟨av, cv, rfl, _, _, _⟩ := Sl.of_owns hown
  rw [← H0.out] at hown
  unfold rb
  have hB7 := (Fr.refl [] w3).alloc (.cells #[.int .i64 S, .int .i64 g, .slice av (gran S g) cv] 74)
  have B7 := Blk.new w3 [.int .i64 S, .int .i64 g, .slice av (gran S g) cv] 74
  have B2c := B2b.fr0 (hf3.trans0 hB7)
  have B4c := B4b.fr0 (hf3.trans0 hB7)
  have hF3 := hF2b.trans0 (hf3.trans0 hB7)
  have hown3 := owns_fr hown hB7 (by simp)
  have hlt3 : ∀ p, av = some p → p.block < w3.heap.size := fun p hp => (hown.lt p.block (by simp [Value.ownBlock, hp])).2
  have l2' := B2c.lt
  have l4' := B4c.lt
  have hW3 := hF2b.size
  have hl4W := B4b.lt
  have hz3 := hf3.size
  simp only [List.set_cons_zero, List.set_cons_succ] at B4c
  have c4 := B4c.cell
  clear B2b B4b hF2b hf3 hB7 hown
  go_wp2_with fail
  generalize w3.alloc (.cells #[.int .i64 S, .int .i64 g, .slice av (gran S g) cv] 74) = w4 at *
  clear c4
  go_loopw [9] (fun t wr => ∃ i : Nat, i ≤ gran S g ∧ t = .int .i64 (i : Int) ∧ wr.ownsRow W3.heap.size 4 1 (.slice av (gran S g) cv) (gran S g) ((decP bs (gran S g) i).flatMap boolC) ∧ Blk wr w.heap.size [.int .i64 0, .int .i64 0, .slice none 0 0] 74 ∧
    Blk wr w1.heap.size [strL l2, .int .i64 0] 69 ∧ Blk wr w3.heap.size [.int .i64 S, .int .i64 g, .slice av (gran S g) cv] 74 ∧ Fr [] w wr) (fun t _ => gran S g - (intOf t).toNat)
  case atStart => exact ⟨0, Nat.zero_le _, rfl, hown3, B2c, B4c, B7, hF3⟩
  case round =>
    clear hown3 B2c B4c B7 hF3
    obtain ⟨i, hi, rfl, hown, B2, B4, B7, hF⟩ := hrel
    have c4 := B4.cell
    have c7 := B7.cell
    have l7 := B7.lt
    by_cases hlt : i < gran S g
    · have hlt' : (i : Int) < (gran S g : Int) := by omega
      obtain ⟨gb, cap, hva, hgb, _⟩ := owns_succ hown (by omega)
      cases hva
      have hgb3 := hlt3 _ rfl
      simp only at hgb3
      obtain ⟨hcell, hfz⟩ := owns_at hown (j := i) (u := .bool ((decP bs (gran S g) i).getD i false)) (by rw [flatB_at, getD_some false (by rw [hdl.out]; exact hlt)]; rfl)
      have hb := Hbit i
      have hst := Hstep i
      have hx8 : l2.getD (i / 8) 0 = l2.getD (i / 8) 0 := rfl
      have hby := (l2.getD (i / 8) 0).toNat_lt
      have hq8 : Int.tdiv (i : Int) 8 = ((i / 8 : Nat) : Int) := Int.ofNat_tdiv i 8
      have Hxb : ∀ x : Nat, Hid (((x : Int) % 2 == 1) = (x % 2 == 1)) := fun x => hidIt (by rw [Bool.eq_iff_iff]; simp; omega)
      have Hpw : ∀ k, Hid ((l2.getD (i / 8) 0).toNat / 2 ^ (k + 1) = (l2.getD (i / 8) 0).toNat / 2 ^ k / 2) := fun k => hidIt (by rw [Nat.pow_succ, Nat.div_div_eq_div_mul])
      have hle : ∀ k, (l2.getD (i / 8) 0).toNat / 2 ^ k < 256 := fun k => Nat.lt_of_le_of_lt (Nat.div_le_self _ _) hby
      clear hx8 Hbit Hstep kN1 kN2
      by_cases hin : i / 8 < l2.length
      case' pos =>
        have hin' : (i : Int) / 8 < (l2.length : Int) := by omega
        have hat : ∀ X : World, (Instr.index 9 (strL l2) (.int .i64 ((i : Int) / 8))).run Tryz.prog X = .ok (.int .u8 ((l2.getD (i / 8) 0).toNat : Int)) X := fun X => at_str hin X
        have hx0 : Hid (((l2.getD (i / 8) 0).toNat : Int) = (((l2.getD (i / 8) 0).toNat / 2 ^ 0 : Nat) : Int)) := hidIt (by simp)
        generalize (l2.getD (i / 8) 0).toNat = N at *
        go_wp2_with fail
      case' neg =>
        have hin' : ¬ (i : Int) / 8 < (l2.length : Int) := by omega
        have hN0 : (l2.getD (i / 8) 0).toNat = 0 := by rw [List.getD_eq_getElem?_getD, List.getElem?_eq_none (by omega)]; rfl
        have hx0 : Hid ((0 : Int) = (((l2.getD (i / 8) 0).toNat / 2 ^ 0 : Nat) : Int)) := hidIt (by rw [hN0]; rfl)
        clear hN0
        generalize (l2.getD (i / 8) 0).toNat = N at *
        go_wp2_with fail
      all_goals
        go_loopw [10, 11] (fun x k wr2 => wr2 = wr ∧ ∃ q : Nat, q ≤ i % 8 ∧ x = .int .i64 ((N / 2 ^ q : Nat) : Int) ∧ k = .int .i64 (q : Int)) (fun _ k _ => 8 - (intOf k).toNat)
        case atStart => exact ⟨rfl, 0, Nat.zero_le _, congrArg (Value.int .i64) hx0.out, rfl⟩
        case round =>
          obtain ⟨rfl, q, hq, rfl, rfl⟩ := hrel
          have hlq := hle q
          have hpw := Hpw q
          have hxb := (Hxb (N / 2 ^ q)).out
          by_cases hq8 : q < i % 8
          · have hq8' : (q : Int) < (i : Int) % 8 := by omega
            clear hxb Hxb Hpw hle
            generalize N / 2 ^ q = X at *
            go_wp2
            go_roundw
            case rel => exact ⟨trivial, q + 1, by omega, by rw [hpw.out]; go_num, by go_num⟩
            case measure => simp [intOf]; omega
          · have hqe : q = i % 8 := by omega
            have hq8' : ¬ (q : Int) < (i : Int) % 8 := by omega
            have hbb : Hid ((N / 2 ^ q % 2 == 1) = bitB bs i) := hidIt (by rw [hb.out, hqe])
            clear Hxb Hpw hle hqe hb hpw
            generalize N / 2 ^ q = X at *
            go_wp2
            go_roundw
            case rel => exact ⟨i + 1, by omega, by go_num, by rw [hst.out, ← hbb.out, flatB_set]; exact owns_put hown i _, B2.other (by simp; omega) _, B4.other (by simp; omega) _, B7.other (by simp; omega) _, hF.setCell (.inr (by simp; omega)) _⟩
            case measure => simp [intOf]; omega
    · have hie : i = gran S g := by omega
      rw [hie, Hall.out] at hown
      have hsl : SlB wr (.slice av (gran S g) cv) (decL bs (gran S g)) := SlF.of_owns (size := 1) (by rw [Hdl.out]; exact hown)
      have hokv := okV.of_owns hown
      have hob := own_base hown
      have hge : (gran S g : Int) ≤ (i : Int) := by omega
      have kE := rEncodeB_calls S g _ (decL bs (gran S g)) wr hsl hsg.1 (by omega) (by rw [Hdl.out]; exact hgr)
      have hRef : Hid (RefB wr (rb S g (.slice av (gran S g) cv)) S g (decL bs (gran S g))) := hidIt ⟨⟨_, rfl, hsl, hokv⟩, hsg.1, hsg.2, Hdl.out⟩
      have c2 := B2.cell
      have f2 := B2.frozen
      have l2'' := B2.lt
      have hzr := hF.size
      clear Hall Hstep hdl H0 Hbit
      obtain ⟨E, hE⟩ : ∃ E, encB S g (decL bs (gran S g)) = E := ⟨_, rfl⟩
      rw [hE] at kE Hgood Hno
      replace hE := hidIt hE
      generalize decL bs (gran S g) = L at *
      unfold rb at kE
      by_cases hd : E = bs
      · have hne' : ∀ X : World, (binOp .neq 9 (strL E) (strL bs)).run Tryz.prog X = .ok (.bool false) X := fun X => by rw [neq_str, decide_eq_true hd]; rfl
        replace hd := hidIt hd
        go_wp2_with fail
        refine kE.mono ?_
        rintro e w5 ⟨rfl, hf5⟩
        have B2e := B2.fr0 hf5
        have B7e := B7.fr0 hf5
        have hF5 := hF.trans0 hf5
        have c2 := B2e.cell
        have f2 := B2e.frozen
        have c7 := B7e.cell
        have l2e := B2e.lt
        have hs3 := Fr.set3 w5 w.heap.size (.int .i64 S) (.int .i64 g) (.slice av (gran S g) cv)
        have e2 := (((B2e.setCell 0 (.int .i64 S)).setCell 1 (.int .i64 g)).setCell 2 (.slice av (gran S g) cv)).cell
        go_wp2
        have hsl5 : SlB w5 (.slice av (gran S g) cv) L := SlF.fr0 hsl hf5
        exact bodyPost_ret (v := .tuple #[rb S g (.slice av (gran S g) cv), .bool true]) (by simp [results, Tryz.results30, go_sem, e2, rb]) rfl (.inl ⟨S, g, L, .slice av (gran S g) cv, Hgood.out hd.out, by rw [hE.out, hd.out], rfl, ⟨⟨_, rfl, SlF.fr hsl5 hs3 (fun k hk hm => by have h1 := hob k hk; have h2 := List.mem_singleton.1 hm; omega), hokv⟩, hsg.1, hsg.2, Hdl.out⟩, hF5.trans hs3 (fun x hx hl => by have := List.mem_singleton.1 hx; omega)⟩)
      · have hne' : ∀ X : World, (binOp .neq 9 (strL E) (strL bs)).run Tryz.prog X = .ok (.bool true) X := fun X => by rw [neq_str, decide_eq_false hd]; rfl
        replace hd := hidIt hd
        go_wp2_with fail
        refine kE.mono ?_
        rintro e w5 ⟨rfl, hf5⟩
        have B2e := B2.fr0 hf5
        have hF5 := hF.trans0 hf5
        have c2 := B2e.cell
        have f2 := B2e.frozen
        have l2e := B2e.lt
        have e2 := (((B2e.setCell 0 (.int .i64 0)).setCell 1 (.int .i64 0)).setCell 2 (.slice none 0 0)).cell
        go_wp2
        exact bodyPost_ret (v := .tuple #[z0, .bool false]) (by simp [results, Tryz.results30, go_sem, e2, z0]) rfl (.inr ⟨Hno.out hd.out, rfl, ((hF5.setCell (.inr (by simp)) _).setCell (.inr (by simp)) _).setCell (.inr (by simp)) _⟩)
theorem rbDec_calls (bs : List UInt8) (w : World) : Calls Tryz.prog 30 #[strL bs] w (rbDecPost w bs) := by
  by_cases h3 : bs.length < 3
  · exact rbDec_no bs w _ _ _ _ _ _ rfl rfl (.inr (bhead_short h3)) (hidIt (fun S g l _ e => by rw [← e, encB_length] at h3; omega))
  · obtain ⟨h1, h2⟩ := bhead_long (bs := bs) (by omega)
    cases hn : okNew (valL (bs.take 2) : Int) (valL ((bs.drop 2).take 1) : Int) with
    | true => exact rbDec_yes bs w (by omega) _ _ rfl rfl hn
    | false =>
      refine rbDec_no bs w _ _ _ _ _ _ h1 h2 (.inl hn) (hidIt (fun S g l hgd e => ?_))
      obtain ⟨a1, a2, a3, a4⟩ := goodB_small hgd
      rw [← e, encB_S a1, encB_g (by omega)] at hn
      simp [okNew, okSec, hgd.2.1] at hn
      have := hgd.1
      omega
end Go.Proofs.YtiifmakhfpllnaaGreat
