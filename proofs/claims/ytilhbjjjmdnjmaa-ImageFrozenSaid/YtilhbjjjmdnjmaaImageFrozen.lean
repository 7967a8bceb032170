/-
  law12.ImageFrozen: the walk.
-/
import Derived.Test.YtilhbjjjmdnjmaaM37
namespace Go.Proofs.Ytilhbjjjmdnjmaa
open Go.RowKit Go.Maps
attribute [local go_sem] mapAt_alloc mapAt_setCell mapAt_drew mapAt_drewN cells_str store_str eql_str neq_str guard_str len_str
def nmF : By := [102, 114, 111, 122, 101, 110]
set_option maxRecDepth 100000 in
set_option maxHeartbeats 3200000 in
theorem ImageFrozen_any (w : World) (a1 a2 a3 : Int) (v : Value) (l : List OpI) (hv : OpsW w w.heap.size v l) (v2 : Value) (l2 : List OpI) (hv2 : OpsW w w.heap.size v2 l2) :
    Calls Try.prog 3 #[.agg #[.int .i64 a1, .int .i64 a2, .int .i64 a3], v, v2] w fun e w' => e = .returned (.bool true) ∧ Fr [] w w' := by
  obtain ⟨a, cap, rfl, hlc, hcm⟩ := hv.open
  unfold maxLen at hcm
  obtain ⟨aa2, cc2, rfl, hlc2, hcm2⟩ := hv2.open
  unfold maxLen at hcm2
  have hF : Value.string ⟨#[102, 114, 111, 122, 101, 110]⟩ = strL nmF := rfl
  obtain ⟨sF, hsF⟩ : ∃ s, s = strL nmF := ⟨_, rfl⟩
  rw [← hsF] at hF
  have HF := hidIt hsF
  have hq : ∀ x, binOp .neq 9 (strL x) sF = pure (.bool (!decide (x = nmF))) := fun x => by rw [hsF]; exact neq_str _ _ _
  have hg : ∀ (op : BinOp) (x y : Operand) (a : By) (w : World), (eqGuard op 9 x y (strL a) sF).run Try.prog w = .ok () w := fun op x y a w => by rw [hsF]; exact guard_str _ _ _ _ _ _
  clear hsF
  have hf0 := (Fr.refl [] w).alloc (.cells #[.int .i64 a1, .int .i64 a2, .int .i64 a3] 23)
  have B0 := Blk.new w [.int .i64 a1, .int .i64 a2, .int .i64 a3] 23
  have hz := hf0.size
  replace hv := hv.fr0 hf0
  replace hv2 := hv2.fr0 hf0
  have c0 := B0.cell
  by_cases hok : okSeat a1 a2 a3
  case neg =>
    go_enter Try.func3, Try.ntmps3
    go_wp2_with fail
    refine (iNew_no a1 a2 a3 _ hok).mono ?_
    rintro e w1 ⟨rfl, hf1⟩
    go_wp2_with fail
    refine (iAlive_calls _).mono ?_
    rintro e w9 ⟨rfl, hf9⟩
    go_wp2
    go_ret
    exact ⟨rfl, (hf0.trans0 hf1).trans0 hf9⟩
  obtain ⟨B, rfl⟩ : ∃ B : Nat, a1 = B := ⟨a1.toNat, by unfold okSeat at hok; omega⟩
  obtain ⟨n, rfl⟩ : ∃ n : Nat, a2 = n := ⟨a2.toNat, by unfold okSeat at hok; omega⟩
  obtain ⟨r, rfl⟩ : ∃ r : Nat, a3 = r := ⟨a3.toNat, by unfold okSeat at hok; omega⟩
  have hB3 : B ≤ 3 := by unfold okSeat at hok; omega
  generalize hw1 : (w.alloc (.cells #[.int .i64 (B : Int), .int .i64 (n : Int), .int .i64 (r : Int)] 23)) = w1 at *
  go_enter Try.func3, Try.ntmps3
  go_wp2_with fail
  try rw [hw1]
  refine (iNew_yes B n r _ hok).mono ?_
  intro e w2 hp
  obtain ⟨ib, p, rfl, hst⟩ := new_St hp
  have hL := LawI.made hok hst
  clear hp hst hok hw1
  replace c0 := (B0.fr0 hL.st.fr).cell
  go_wp2_with fail
  refine (iFew_calls _ _ _ _ (.slice a l.length cap) l _ (hv.fr0 hL.st.fr)).mono ?_
  rintro e w3 ⟨b0, rfl, hfb0⟩
  replace hL := hL.keep hfb0
  replace c0 := (B0.fr0 hL.st.fr).cell
  clear hfb0
  cases b0
  case false =>
    go_wp2_with fail
    refine (iAlive_calls _).mono ?_
    rintro e w9 ⟨rfl, hf9⟩
    go_wp2
    go_ret
    exact ⟨rfl, (hf0.trans0 hL.st.fr).trans0 hf9⟩
  go_wp2_with fail
  refine (iFew_calls _ _ _ _ (.slice aa2 l2.length cc2) l2 _ (hv2.fr0 hL.st.fr)).mono ?_
  rintro e w4 ⟨b1, rfl, hfb1⟩
  replace hL := hL.keep hfb1
  replace c0 := (B0.fr0 hL.st.fr).cell
  clear hfb1
  cases b1
  case false =>
    go_wp2_with fail
    refine (iAlive_calls _).mono ?_
    rintro e w9 ⟨rfl, hf9⟩
    go_wp2
    go_ret
    exact ⟨rfl, (hf0.trans0 hL.st.fr).trans0 hf9⟩
  go_wp2_with fail
  go_loopw [10, 50] (fun _ i wr => ∃ (k : Nat) (q : Pl) (R : Img), k ≤ l.length ∧ i = .int .i64 k ∧ LawI w1 wr ib q R B r) (fun _ i _ => l.length - (intOf i).toNat)
  case atStart => exact ⟨0, _, _, Nat.zero_le _, rfl, hL⟩
  clear hL c0
  obtain ⟨k, q, R, hk, rfl, hL⟩ := hrel
  have c0 := (B0.fr0 hL.st.fr).cell
  by_cases hlt : k < l.length
  case pos =>
    obtain ⟨b, off, vb, rfl, hb, hbn, hbv, d0, d1, d2, d3, d4⟩ := (hv.fr0 hL.st.fr).at hlt
    generalize l.getD k zOI = o at *
    have hL2 := hL.keep ((Fr.refl [] wr).alloc (.cells #[.int .i64 o.k, .int .i64 o.x, .int .i64 o.lo, vb, strL o.nm] 33))
    have hbv2 := hbv.fr ((Fr.refl [] wr).alloc (.cells #[.int .i64 o.k, .int .i64 o.x, .int .i64 o.lo, vb, strL o.nm] 33)) (fun _ h => by cases h)
    have B9 := (Blk.new wr [.int .i64 o.k, .int .i64 o.x, .int .i64 o.lo, vb, strL o.nm] 33).cell
    have kD := hL2.does hz o vb hbv2
    obtain ⟨vb1, vc1, rfl, _⟩ := hbv.sl.open
    obtain ⟨ok, ox, olo, ob, onm⟩ := o
    unfold opiV at kD
    clear hbv hbv2 hL2
    go_wp2_with fail
    refine kD.mono ?_
    rintro e w3 ⟨p3, rfl, hL3, hs3⟩
    clear kD
    go_wp2
    go_roundw
    case rel => exact ⟨k + 1, p3, _, by omega, by go_num, hL3⟩
    case measure => simp [intOf]; omega
  have hke : k = l.length := by omega
  subst hke
  clear hlt hk hlc hv
  obtain ⟨A, hA, hA8, hsh⟩ := hL.all
  have hBR := hidIt hL.hB
  go_wp2_with fail
  refine (iSize_calls _ hL.st.img).mono ?_
  rintro e w5 ⟨rfl, rfl⟩
  go_wp2_with fail
  rw [hsh.out]
  refine (hL.readA hA.out).mono ?_
  rintro e w6 ⟨vw, rfl, hvw, how, hf6⟩
  have hAp := hL.apart hvw how
  replace hL := hL.keep hf6
  replace c0 := (B0.fr0 hL.st.fr).cell
  have hWd : Hid (readI R 0 (R.t.length * 2 ^ R.B) = readI R 0 A) := hidIt (by rw [hA.out, hL.hB])
  rw [hWd.out] at hAp
  obtain ⟨W, hW⟩ : ∃ W, Hid (readI R 0 A = W) := ⟨_, hidIt rfl⟩
  rw [hW.out] at hAp
  clear hvw how hf6 hWd
  obtain ⟨va, vc, rfl, _⟩ := hAp.sl.open
  go_wp2_with fail
  rw [HF.out]
  refine (iSnap_calls nmF _ hL.st.img hL.ok).mono ?_
  intro e w7 hp
  obtain ⟨p7, rfl, hL7, hs7⟩ := hL.res hp (snap_K hL.ok nmF (fun _ => True))
  have hAp7 := hAp.step hs7
  have hfz : (snapE R nmF).1 = 0 → frzI (snapE R nmF).2 R nmF := frz_start hL.ok
  have c7 := (B0.fr0 hL7.st.fr).cell
  clear hp hL hs7 hAp c0
  generalize (snapE R nmF).1 = cc at *
  generalize (snapE R nmF).2 = R7 at *
  by_cases hcc : cc = 0
  case neg =>
    have hcc' : (cc == 0) = false := by simpa using hcc
    go_wp2_with fail
    refine (iAlive_calls _).mono ?_
    rintro e w9 ⟨rfl, hf9⟩
    go_wp2
    go_ret
    exact ⟨rfl, (hf0.trans0 hL7.st.fr).trans0 hf9⟩
  subst hcc
  have hfz7 := hidIt (hfz rfl)
  clear hfz
  go_wp2_with fail
  go_loopw [15, 75] (fun _ i wr => ∃ (k : Nat) (q : Pl) (R1 : Img), k ≤ l2.length ∧ i = .int .i64 k ∧ LawI w1 wr ib q R1 B r ∧ Hid (frzI R1 R nmF) ∧ Apart wr q (.slice va W.length vc) W) (fun _ i _ => l2.length - (intOf i).toNat)
  case atStart => exact ⟨0, _, _, Nat.zero_le _, rfl, hL7, hfz7, hAp7⟩
  clear hL7 c7 hfz7 hAp7 p7 R7 q
  obtain ⟨k, q, R1, hk, rfl, hL, hfz, hAp⟩ := hrel
  have c0 := (B0.fr0 hL.st.fr).cell
  by_cases hlt : k < l2.length
  case pos =>
    obtain ⟨b, off, vb, rfl, hb, hbn, hbv, d0, d1, d2, d3, d4⟩ := (hv2.fr0 hL.st.fr).at hlt
    generalize l2.getD k zOI = o at *
    have hL2 := hL.keep ((Fr.refl [] wr).alloc (.cells #[.int .i64 o.k, .int .i64 o.x, .int .i64 o.lo, vb, strL o.nm] 33))
    have hbv2 := hbv.fr ((Fr.refl [] wr).alloc (.cells #[.int .i64 o.k, .int .i64 o.x, .int .i64 o.lo, vb, strL o.nm] 33)) (fun _ h => by cases h)
    have B9 := (Blk.new wr [.int .i64 o.k, .int .i64 o.x, .int .i64 o.lo, vb, strL o.nm] 33).cell
    have kD := hL2.does hz o vb hbv2
    obtain ⟨vb1, vc1, rfl, _⟩ := hbv.sl.open
    obtain ⟨ok, ox, olo, ob, onm⟩ := o
    unfold opiV at kD
    have hAp2 := hAp.keep ((Fr.refl [] wr).alloc (.cells #[.int .i64 ok, .int .i64 ox, .int .i64 olo, .slice vb1 ob.length vc1, strL onm] 33))
    have hop := fun h => hidIt (frz_op hfz.out ⟨ok, ox, olo, ob, onm⟩ [] h)
    have h5' : (OpI.mk ok ox olo ob onm).k = ok := rfl
    have hn' : (OpI.mk ok ox olo ob onm).nm = onm := rfl
    rw [h5', hn'] at hop
    clear h5' hn'
    by_cases hn : onm = nmF
    case pos =>
      by_cases h5 : ok < 5
      case neg =>
        subst hn
        clear kD hop hbv hbv2 hL hAp
        go_wp2
        go_roundw
        case rel => exact ⟨k + 1, _, _, by omega, by go_num, hL2, hfz, hAp2⟩
        case measure => simp [intOf]; omega
      replace hop := hop (.inr h5)
      subst hn
      clear hbv hbv2 hL2 hAp
      go_wp2_with fail
      refine kD.mono ?_
      rintro e w3 ⟨p3, rfl, hL3, hs3⟩
      have hAp3 := hAp2.step hs3
      clear kD
      go_wp2
      go_roundw
      case rel => exact ⟨k + 1, p3, _, by omega, by go_num, hL3, hop, hAp3⟩
      case measure => simp [intOf]; omega
    replace hop := hop (.inl hn)
    have hnd : decide (onm = nmF) = false := decide_eq_false hn
    clear hbv hbv2 hL2 hAp
    go_wp2_with fail
    refine kD.mono ?_
    rintro e w3 ⟨p3, rfl, hL3, hs3⟩
    have hAp3 := hAp2.step hs3
    clear kD
    go_wp2
    go_roundw
    case rel => exact ⟨k + 1, p3, _, by omega, by go_num, hL3, hop, hAp3⟩
    case measure => simp [intOf]; omega
  have hke : k = l2.length := by omega
  subst hke
  clear hlt hk
  obtain ⟨R2, hap, _, hB2, ht2, hc2⟩ := frz_end hfz.out
  go_wp2_with fail
  rw [HF.out]
  refine (iApply_calls nmF _ hL.st.img hL.ok).mono ?_
  intro e w8 hp
  obtain ⟨p8, rfl, hL8, hs8⟩ := hL.res hp (apply_K hL.ok nmF (fun _ => True))
  rw [hap]
  have hL8 : LawI w1 w8 ib p8 R2 B r := by rw [hap] at hL8; exact hL8
  have hAp8 := hAp.step hs8
  have c8 := (B0.fr0 hL8.st.fr).cell
  have hrd : readI R2 0 A = W := (read_conT hB2 hc2 0 A).trans hW.out
  clear hp hL hs8 hAp c0 hap hfz
  go_wp2_with fail
  rw [hsh.out]
  refine (hL8.readN A (by rw [hA.out, ht2, hB2, hBR.out]; exact Nat.le_refl _)).mono ?_
  rintro e w9 ⟨v9, rfl, hv9, _, hf9⟩
  rw [hrd] at hv9
  obtain ⟨va9, vc9, rfl, _⟩ := hv9.open
  have hL9 := hL8.keep hf9
  have hAp9 := hAp8.keep hf9
  clear hL8 hAp8 c8 hf9 hB2 hc2 hrd
  go_wp2_with fail
  refine (iAlive_calls _).mono ?_
  rintro e w10 ⟨rfl, hf10⟩
  have hL10 := hL9.keep hf10
  have k1 := conv_str (slY_fr0 hv9 hf10)
  have k2 := conv_str (hAp9.keep hf10).sl
  clear hv9 hAp9 hL9
  go_wp2_with fail
  refine (iSize_calls _ hL10.st.img).mono ?_
  rintro e w11 ⟨rfl, rfl⟩
  rw [ht2]
  go_wp2
  go_ret
  exact ⟨rfl, hf0.trans0 hL10.st.fr⟩
end Go.Proofs.Ytilhbjjjmdnjmaa
