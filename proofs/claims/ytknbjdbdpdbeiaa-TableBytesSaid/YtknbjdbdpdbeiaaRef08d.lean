/-
  ref08.Decode.
-/
import Derived.Test.YtknbjdbdpdbeiaaOctRR
import Derived.Test.YtknbjdbdpdbeiaaTabDec
namespace Go.Proofs.Ytknbjdbdpdbeiaa
open Go.RowKit Go.Maps

attribute [local go_sem] len_str store_str cells_str guard_str
attribute [local go_sem high] equalSlot0 equalSlotR0 fieldKind

/-- the slots of a row of bytes, if all may be -/
def rowsL (y : List UInt8) : List Slt := if (restL y).all rightS then restL y else []
theorem rRest_rows (l : List UInt8) (m : Nat) (w : World) (hm : l.length = 4 * m) (hl : m ≤ 100000) : Calls Try.prog 54 #[strL l] w fun e w' => ∃ u x, e = .returned (.tuple #[u, .int .i64 x]) ∧ SlS w' u (rowsL l) ∧ Fr [] w w' := by
  refine (rRest_calls l m w hm hl).mono ?_
  rintro e w' (⟨hr, u, rfl, hown, hf⟩ | ⟨⟨s, hs, hr⟩, rfl, hf⟩)
  · refine ⟨u, 0, rfl, ?_, hf⟩
    unfold rowsL
    rw [if_pos (List.all_eq_true.2 hr)]
    exact SlF.of_owns hown
  · refine ⟨_, 60, rfl, ?_, hf⟩
    unfold rowsL
    rw [if_neg (fun h => by
      have := List.all_eq_true.1 h s hs
      rw [hr] at this
      cases this)]
    exact Sl.nil _
theorem rowsL_len (y : List UInt8) : (rowsL y).length ≤ y.length / 4 := by
  unfold rowsL
  split
  · rw [restL_length]; exact Nat.le_refl _
  · simp
theorem putR_take {l r : List Slt} {b i : Nat} (h : i < r.length) : putR l b (r.take (i + 1)) = (tSet (putR l b (r.take i)) (((b + i : Nat)) : Int) (r.getD i zS)).1 := by
  have hg : r[i] = r.getD i zS := by rw [List.getD_eq_getElem?_getD, List.getElem?_eq_getElem h]; rfl
  rw [List.take_succ_eq_append_getElem h, hg, putR_snoc, List.length_take, Nat.min_eq_left (Nat.le_of_lt h)]
def rDecPost (w : World) (bs : List UInt8) (e : Ending) (w' : World) : Prop :=
  (∃ l u, goodT l ∧ encT l = bs ∧ e = .returned (.tuple #[u, .bool true]) ∧ SlS w' u l ∧ Fr [] w w') ∨ ((∀ l, goodT l → encT l ≠ bs) ∧ e = .returned (.tuple #[.slice none 0 0, .bool false]) ∧ Fr [] w w')
set_option maxRecDepth 100000 in
set_option maxHeartbeats 1600000 in
theorem rDec_short (bs : List UInt8) (w : World) (h4 : bs.length < 4) : Calls Try.prog 30 #[strL bs] w (rDecPost w bs) := by
  have Hno : Hid (∀ l, goodT l → encT l ≠ bs) := hidIt (fun l _ e => by rw [← e, encT_len] at h4; omega)
  have kN := fun X => ReadNum_calls 2 (by omega) bs 0 X
  have h4' : (bs.length : Int) < 4 := by omega
  clear h4
  generalize (rdNum bs 0 2).1 = r at *
  generalize (rdNum bs 0 2).2.1 = e at *
  generalize (rdNum bs 0 2).2.2 = n at *
  have hfa := fun X => (Fr.refl [] X).alloc (.cells #[strL r, .int .i64 e] 101)
  cases hn : okSize (n : Int) with
  | false =>
    go_enter Try.func30, Try.ntmps30
    go_wp2_with (refine wpList_buildR rfl _ rfl _ rfl ?_)
    refine (kN _).mono ?_
    rintro e w1 ⟨rfl, hf1⟩
    go_wp2_with fail
    refine (rNew_no _ _ hn).mono ?_
    rintro e w2 ⟨rfl, rfl⟩
    go_wp2
    go_ret2
    exact .inr ⟨Hno.out, rfl, hf1.trans0 (hfa _)⟩
  | true =>
    go_enter Try.func30, Try.ntmps30
    go_wp2_with (refine wpList_buildR rfl _ rfl _ rfl ?_)
    refine (kN _).mono ?_
    rintro e w1 ⟨rfl, hf1⟩
    go_wp2_with fail
    refine (rNew_yes _ _ (by simp [okSize] at hn; omega)).mono ?_
    rintro e w2 ⟨v, rfl, hown, hf2⟩
    go_wp2
    go_ret2
    exact .inr ⟨Hno.out, rfl, (hf1.trans0 (hfa _)).trans0 hf2⟩
set_option maxRecDepth 100000 in
set_option maxHeartbeats 3200000 in
theorem rDec_long (bs : List UInt8) (w : World) (h4 : 4 ≤ bs.length) (hl : bs.length ≤ 100000) : Calls Try.prog 30 #[strL bs] w (rDecPost w bs) := by
  have er : rdNum bs 0 2 = (bs.drop 2, 0, valL (bs.take 2)) := by unfold rdNum; rw [if_neg (by simp), if_neg (by omega)]
  have kN := fun X => ReadNum_calls 2 (by omega) bs 0 X
  rw [er] at kN
  have h4' : ¬ (bs.length : Int) < 4 := by omega
  have H0 : Hid (rdecN bs 0 = List.replicate (valL (bs.take 2)) zS) := hidIt rfl
  have hlenD := hidIt (rdecN_length bs)
  have hrightD := hidIt (rdecN_right bs)
  by_cases hn : valL (bs.take 2) ≤ 256
  · generalize bs.drop 2 = r at *
    generalize valL (bs.take 2) = n at *
    clear er
    go_enter Try.func30, Try.ntmps30
    go_wp2_with (refine wpList_buildR rfl _ rfl _ rfl ?_)
    refine (kN _).mono ?_
    rintro e w1 ⟨rfl, hf1⟩
    have B4 := Blk.new w1 [strL r, .int .i64 0] 101
    have hfa := (Fr.refl [] w1).alloc (.cells #[strL r, .int .i64 0] 101)
    go_wp2_with fail
    refine (rNew_yes _ _ hn).mono ?_
    rintro e w2 ⟨v, rfl, hown2, hf2⟩
    have hF2 := (hf1.trans0 hfa).trans0 hf2
    replace B4 := B4.fr0 hf2
    have hs2 : SlS w2 v (rdecN bs 0) := by
      rw [H0.out]
      exact SlF.of_owns (size := 3) (by rw [List.length_replicate]; exact hown2)
    clear H0 hown2 hf2 hfa hf1 kN
    go_wp2_with fail
    go_loopw [6, 8] (fun u i wr => ∃ j A : Nat, A ≤ bs.length ∧ Hid (A = 4 + 66 * j) ∧ i = .int .i64 (A : Int) ∧ SlS wr u (rdecN bs j) ∧ Blk wr w1.heap.size [strL r, .int .i64 0] 101 ∧ Fr [] w wr) (fun _ i _ => bs.length - (intOf i).toNat)
    case atStart => exact ⟨0, 4, h4, rfl, rfl, hs2, B4, hF2⟩
    case round =>
      clear hs2 B4 hF2
      obtain ⟨j, A, hj, hA, rfl, hs, B4, hF⟩ := hrel
      obtain ⟨a, cap, rfl, _, _, _⟩ := hs.open
      have hlj := hlenD.out j
      have hrj := hrightD.out j
      by_cases hlt : A + 66 ≤ bs.length
      · have hle : (A : Int) + 66 ≤ (bs.length : Int) := by omega
        have hp1 : ∀ X : World, (Instr.slice 9 (strL bs) (some (.int .i64 (A : Int))) (some (.int .i64 ((A : Int) + 2))) none).run Try.prog X = .ok (strL ((bs.drop A).take 2)) X := fun X => by
          have := part_str (l := bs) (a := A) (b := A + 2) (by omega) (by omega) X
          rwa [Nat.add_sub_cancel_left] at this
        have hp2 : ∀ X : World, (Instr.slice 9 (strL bs) (some (.int .i64 ((A : Int) + 2))) (some (.int .i64 ((A : Int) + 66))) none).run Try.prog X = .ok (strL ((bs.drop (A + 2)).take 64)) X := fun X => by
          have := part_str (l := bs) (a := A + 2) (b := A + 66) (by omega) (by omega) X
          rwa [show A + 66 - (A + 2) = 64 by omega] at this
        have hy2 : ((bs.drop A).take 2).length = 2 := by rw [List.length_take, List.length_drop]; omega
        have hy64 : ((bs.drop (A + 2)).take 64).length = 4 * 16 := by rw [List.length_take, List.length_drop]; omega
        have Hk : Hid (kAt bs j = valL ((bs.drop A).take 2)) := hidIt (by unfold kAt; rw [hA.out])
        have Hr : Hid (rowsAt bs j = rowsL ((bs.drop (A + 2)).take 64)) := hidIt (by unfold rowsAt gAt rowsL yAt; rw [hA.out])
        have Hst : Hid (rdecN bs (j + 1) = putR (rdecN bs j) (16 * kAt bs j) (rowsAt bs j)) := hidIt rfl
        have hk64 : kAt bs j < 65536 := kAt_lt
        rw [Hk.out] at Hst hk64
        rw [Hr.out] at Hst
        clear Hk Hr
        generalize (bs.drop A).take 2 = y2 at *
        generalize (bs.drop (A + 2)).take 64 = y64 at *
        have er2 : rdNum y2 0 2 = (y2.drop 2, 0, valL y2) := by unfold rdNum; rw [if_neg (by simp), if_neg (by omega), List.take_of_length_le (by omega)]
        have kN2 := fun X => ReadNum_calls 2 (by omega) y2 0 X
        rw [er2] at kN2
        generalize y2.drop 2 = r2 at *
        clear er2 hy2
        generalize valL y2 = k at *
        have kR := fun X => rRest_rows y64 16 X hy64 (by omega)
        have hrl := rowsL_len y64
        generalize rowsL y64 = rows at *
        have hrl16 : rows.length ≤ 16 := by omega
        clear hrl hy64
        have Hp0 : Hid (putR (rdecN bs j) (16 * k) (rows.take 0) = rdecN bs j) := hidIt rfl
        have HpE : Hid (putR (rdecN bs j) (16 * k) (rows.take rows.length) = putR (rdecN bs j) (16 * k) rows) := hidIt (by rw [List.take_length])
        have hlp : ∀ i, (putR (rdecN bs j) (16 * k) (rows.take i)).length = n := fun i => by rw [putR_length, hlj]
        have Hps : ∀ i, i < rows.length → Hid (putR (rdecN bs j) (16 * k) (rows.take (i + 1)) = (tSet (putR (rdecN bs j) (16 * k) (rows.take i)) (16 * (k : Int) + (i : Int)) (rows.getD i zS)).1) := fun i hi => hidIt (by
          rw [putR_take hi, show ((16 * k + i : Nat) : Int) = 16 * (k : Int) + (i : Int) by omega])
        generalize hL : rdecN bs j = L at *
        clear hL hrj hlj
        go_wp2_with (refine wpList_buildR rfl _ rfl _ rfl ?_)
        refine (kN2 _).mono ?_
        rintro e w3 ⟨rfl, hf3⟩
        have hfa3 := hf3.alloc (.cells #[strL r2, .int .i64 0] 101)
        go_wp2_with fail
        refine (kR _).mono ?_
        rintro e w4 ⟨ur, x, rfl, hsr, hf4⟩
        have hf14 := hfa3.trans0 hf4
        have hF4 := hF.trans0 hf14
        have B44 := B4.fr0 hf14
        have hs4 : SlS w4 _ L := hs.fr0 hf14
        obtain ⟨ar, capr, rfl, _, _, _⟩ := hsr.open
        clear kN2 kR hf3 hfa3 hf4 hf14 hs B4 hF
        go_wp2_with fail
        go_loopw [6, 13] (fun u i wr => ∃ i' : Nat, i' ≤ rows.length ∧ i = .int .i64 i' ∧ SlS wr u (putR L (16 * k) (rows.take i')) ∧ SlS wr (.slice ar rows.length capr) rows ∧ Blk wr w1.heap.size [strL r, .int .i64 0] 101 ∧ Fr [] w wr) (fun _ i _ => rows.length - (intOf i).toNat)
        case atStart => exact ⟨0, Nat.zero_le _, rfl, by rw [Hp0.out]; exact hs4, hsr, B44, hF4⟩
        case round =>
          clear hs4 hsr B44 hF4
          obtain ⟨i, hi, rfl, hs, hsr, B4, hF⟩ := hrel
          by_cases hil : i < rows.length
          · have Hst1 := Hps i hil
            obtain ⟨b, off, rfl, hb, c0, c1, c2⟩ := SlS.at hsr hil
            have hlp1 := hlp i
            clear Hps hlp Hp0 HpE
            generalize hsd : rows.getD i zS = sd at *
            obtain ⟨p, q, o⟩ := sd
            simp only at c0 c1 c2
            have kS := fun (X : World) (v : Value) (h : SlS X v (putR L (16 * k) (rows.take i))) => rSet_calls v (putR L (16 * k) (rows.take i)) (16 * (k : Int) + (i : Int)) p q o X h (by rw [hlp1]; exact hn)
            unfold rSetPost at kS
            generalize putR L (16 * k) (rows.take i) = M at *
            generalize tSet M (16 * (k : Int) + (i : Int)) (p, q, o) = R at *
            obtain ⟨R1, ⟨s1, s2, s3⟩, R3⟩ := R
            clear hsd hlp1
            obtain ⟨aM, capM, rfl, _, _, _⟩ := hs.open
            go_wp2_with fail
            refine (kS _ _ hs).mono ?_
            rintro e w5 ⟨v5, rfl, hs5, hf5⟩
            have hfa5 := hf5.alloc (.cells #[.int .i64 s1, .int .i64 s2, .bool s3] 32)
            have hs5' : SlS _ v5 R1 := hs5.fr0 ((Fr.refl [] w5).alloc (.cells #[.int .i64 s1, .int .i64 s2, .bool s3] 32))
            go_wp2
            go_roundw
            case rel => exact ⟨i + 1, by omega, by go_num, by rw [Hst1.out]; exact hs5', hsr.fr0 hfa5, B4.fr0 hfa5, hF.trans0 hfa5⟩
            case measure => simp [intOf]; omega
          · have hie : i = rows.length := by omega
            subst hie
            rw [HpE.out, ← Hst.out] at hs
            go_wp2
            go_roundw
            case rel => exact ⟨j + 1, A + 66, hlt, by have := hA.out; exact hidIt (by omega), by go_num, hs, B4, hF⟩
            case measure => simp [intOf]; omega
      · have hle : ¬ (A : Int) + 66 ≤ (bs.length : Int) := by omega
        have Hj : Hid (j = (bs.length - 4) / 66) := hidIt (by have := hA.out; omega)
        have kE := rEnc_calls _ (rdecN bs j) wr hs hrj (by rw [hlj]; exact hn)
        have c4 := B4.cell
        have Hg : Hid (goodT (rdecN bs j)) := hidIt ⟨by rw [hlj]; exact hn, hrj⟩
        have Hno : Hid (encT (rdecN bs j) ≠ bs → ∀ l, goodT l → encT l ≠ bs) := hidIt (fun hd l hg e => by
          have h1 := rdecN_enc hg
          rw [e, ← Hj.out] at h1
          rw [h1] at hd
          exact hd e)
        have Hyes : Hid (encT (rdecN bs j) = bs → encT (rdecN bs j) = bs) := hidIt id
        clear hrj hlj Hj
        generalize hL : rdecN bs j = L at *
        obtain ⟨E, hE⟩ : ∃ E, encT L = E := ⟨_, rfl⟩
        rw [hE] at kE Hno
        replace Hyes : Hid (E = bs → encT L = bs) := hidIt (by rw [← hE]; exact id)
        clear hE hL
        by_cases hd : E = bs
        · have hne : ∀ X : World, (binOp .neq 9 (strL E) (strL bs)).run Try.prog X = .ok (.bool false) X := fun X => by rw [neq_str, decide_eq_true hd]; rfl
          replace hd := hidIt hd
          go_wp2_with fail
          refine kE.mono ?_
          rintro e w3 ⟨rfl, hf3⟩
          go_wp2
          go_ret2
          exact .inl ⟨_, _, Hg.out, Hyes.out hd.out, rfl, hs.fr0 hf3, hF.trans0 hf3⟩
        · have hne : ∀ X : World, (binOp .neq 9 (strL E) (strL bs)).run Try.prog X = .ok (.bool true) X := fun X => by rw [neq_str, decide_eq_false hd]; rfl
          replace hd := hidIt hd
          go_wp2_with fail
          refine kE.mono ?_
          rintro e w3 ⟨rfl, hf3⟩
          go_wp2
          go_ret2
          exact .inr ⟨Hno.out hd.out, rfl, hF.trans0 hf3⟩
  · have Hno : Hid (∀ l, goodT l → encT l ≠ bs) := hidIt (fun l hg e => by
      subst e
      rw [encT_num hg] at hn
      exact hn hg.1)
    have hnk : okSize (valL (bs.take 2) : Int) = false := by simp [okSize]; omega
    generalize bs.drop 2 = r at *
    generalize valL (bs.take 2) = n at *
    go_enter Try.func30, Try.ntmps30
    go_wp2_with (refine wpList_buildR rfl _ rfl _ rfl ?_)
    refine (kN _).mono ?_
    rintro e w1 ⟨rfl, hf1⟩
    have hfa := (Fr.refl [] w1).alloc (.cells #[strL r, .int .i64 0] 101)
    go_wp2_with fail
    refine (rNew_no _ _ hnk).mono ?_
    rintro e w2 ⟨rfl, rfl⟩
    go_wp2
    go_ret2
    exact .inr ⟨Hno.out, rfl, hf1.trans0 hfa⟩
theorem rDec_calls (bs : List UInt8) (w : World) (hl : bs.length ≤ 100000) : Calls Try.prog 30 #[strL bs] w (rDecPost w bs) := by
  by_cases h4 : bs.length < 4
  · exact rDec_short bs w h4
  · exact rDec_long bs w (by omega) hl
end Go.Proofs.Ytknbjdbdpdbeiaa
