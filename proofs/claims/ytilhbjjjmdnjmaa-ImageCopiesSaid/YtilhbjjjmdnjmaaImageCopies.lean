/-
  law12.ImageCopies: the walk.
-/
import Derived.Test.YtilhbjjjmdnjmaaM37
import Derived.Test.YtilhbjjjmdnjmaaM42
namespace Go.Proofs.Ytilhbjjjmdnjmaa
open Go.RowKit Go.Maps
attribute [local go_sem] mapAt_alloc mapAt_setCell mapAt_drew mapAt_drewN cells_str store_str eql_str neq_str guard_str len_str
set_option maxRecDepth 100000 in
set_option maxHeartbeats 3200000 in
theorem ImageCopies_any (w : World) (a1 a2 a3 : Int) (v : Value) (l : List OpI) (hv : OpsW w w.heap.size v l) (v2 : Value) (l2 : List OpI) (hv2 : OpsW w w.heap.size v2 l2) :
    Calls Try.prog 7 #[.agg #[.int .i64 a1, .int .i64 a2, .int .i64 a3], v, v2] w fun e w' => e = .returned (.bool true) ∧ Fr [] w w' := by
  obtain ⟨a, cap, rfl, hlc, hcm⟩ := hv.open
  unfold maxLen at hcm
  obtain ⟨aa2, cc2, rfl, hlc2, hcm2⟩ := hv2.open
  unfold maxLen at hcm2
  have hf0 := (Fr.refl [] w).alloc (.cells #[.int .i64 a1, .int .i64 a2, .int .i64 a3] 23)
  have B0 := Blk.new w [.int .i64 a1, .int .i64 a2, .int .i64 a3] 23
  have hz := hf0.size
  replace hv := hv.fr0 hf0
  replace hv2 := hv2.fr0 hf0
  have c0 := B0.cell
  by_cases hok : okSeat a1 a2 a3
  case neg =>
    go_enter Try.func7, Try.ntmps7
    go_wp2_with fail
    refine (iNew_no a1 a2 a3 _ hok).mono ?_
    rintro e w1 ⟨rfl, hf1⟩
    go_wp2_with fail
    refine (iAlive_calls _).mono ?_
    rintro e w9 ⟨rfl, hf9⟩
    go_wp2
    go_ret
    exact ⟨rfl, (hf0.trans0 hf1).trans0 hf9⟩
  obtain ⟨B, rfl⟩ : ∃ B : Nat, a1 = B := ⟨a1.toNat, by unfold okSeat at hok; omega⟩
  obtain ⟨n, rfl⟩ : ∃ n : Nat, a2 = n := ⟨a2.toNat, by unfold okSeat at hok; omega⟩
  obtain ⟨r, rfl⟩ : ∃ r : Nat, a3 = r := ⟨a3.toNat, by unfold okSeat at hok; omega⟩
  have hB3 : B ≤ 3 := by unfold okSeat at hok; omega
  generalize hw1 : (w.alloc (.cells #[.int .i64 (B : Int), .int .i64 (n : Int), .int .i64 (r : Int)] 23)) = w1 at *
  go_enter Try.func7, Try.ntmps7
  go_wp2_with fail
  try rw [hw1]
  refine (iNew_yes B n r _ hok).mono ?_
  intro e w2 hp
  obtain ⟨ib, p, rfl, hst⟩ := new_St hp
  have hL := LawI.made hok hst
  clear hp hst hok hw1
  replace c0 := (B0.fr0 hL.st.fr).cell
  go_wp2_with fail
  refine (iFew_calls _ _ _ _ (.slice a l.length cap) l _ (hv.fr0 hL.st.fr)).mono ?_
  rintro e w3 ⟨b0, rfl, hfb0⟩
  replace hL := hL.keep hfb0
  replace c0 := (B0.fr0 hL.st.fr).cell
  clear hfb0
  cases b0
  case false =>
    go_wp2_with fail
    refine (iAlive_calls _).mono ?_
    rintro e w9 ⟨rfl, hf9⟩
    go_wp2
    go_ret
    exact ⟨rfl, (hf0.trans0 hL.st.fr).trans0 hf9⟩
  go_wp2_with fail
  refine (iFew_calls _ _ _ _ (.slice aa2 l2.length cc2) l2 _ (hv2.fr0 hL.st.fr)).mono ?_
  rintro e w4 ⟨b1, rfl, hfb1⟩
  replace hL := hL.keep hfb1
  replace c0 := (B0.fr0 hL.st.fr).cell
  clear hfb1
  cases b1
  case false =>
    go_wp2_with fail
    refine (iAlive_calls _).mono ?_
    rintro e w9 ⟨rfl, hf9⟩
    go_wp2
    go_ret
    exact ⟨rfl, (hf0.trans0 hL.st.fr).trans0 hf9⟩
  go_wp2_with fail
  go_loopw [10, 51] (fun _ i wr => ∃ (k : Nat) (q : Pl) (R : Img), k ≤ l.length ∧ i = .int .i64 k ∧ LawI w1 wr ib q R B r) (fun _ i _ => l.length - (intOf i).toNat)
  case atStart => exact ⟨0, _, _, Nat.zero_le _, rfl, hL⟩
  clear hL c0
  obtain ⟨k, q, R, hk, rfl, hL⟩ := hrel
  have c0 := (B0.fr0 hL.st.fr).cell
  by_cases hlt : k < l.length
  case pos =>
    obtain ⟨b, off, vb, rfl, hb, hbn, hbv, d0, d1, d2, d3, d4⟩ := (hv.fr0 hL.st.fr).at hlt
    generalize l.getD k zOI = o at *
    have hL2 := hL.keep ((Fr.refl [] wr).alloc (.cells #[.int .i64 o.k, .int .i64 o.x, .int .i64 o.lo, vb, strL o.nm] 33))
    have hbv2 := hbv.fr ((Fr.refl [] wr).alloc (.cells #[.int .i64 o.k, .int .i64 o.x, .int .i64 o.lo, vb, strL o.nm] 33)) (fun _ h => by cases h)
    have B9 := (Blk.new wr [.int .i64 o.k, .int .i64 o.x, .int .i64 o.lo, vb, strL o.nm] 33).cell
    have kD := hL2.does hz o vb hbv2
    obtain ⟨vb1, vc1, rfl, _⟩ := hbv.sl.open
    obtain ⟨ok, ox, olo, ob, onm⟩ := o
    unfold opiV at kD
    clear hbv hbv2 hL2
    go_wp2_with fail
    refine kD.mono ?_
    rintro e w3 ⟨p3, rfl, hL3, hs3⟩
    clear kD
    go_wp2
    go_roundw
    case rel => exact ⟨k + 1, p3, _, by omega, by go_num, hL3⟩
    case measure => simp [intOf]; omega
  have hke : k = l.length := by omega
  subst hke
  clear hlt hk hlc hv
  obtain ⟨A1, hA1, hA81, hsh1⟩ := hL.allD
  have hdr1 := (Fr.refl [] wr).drew
  have hLd1 := hL.keep hdr1
  have hfb1 := hL.st.fr.drew
  go_wp2_with fail
  refine wp_region_G (Fr [] wr.drew) [(true, 0), (true, 1), (true, 3), (true, 4), (false, 2), (true, 5), (false, 6), (true, 7), (true, 8), (true, 9), (true, 10), (true, 11)] (by as_aux_lemma => kernel_rfl) (by as_aux_lemma => kernel_rfl) (Fr.refl _ _) ?_
  simp only [inOrder, List.map_cons, List.map_nil, List.getD_cons_zero, List.getD_cons_succ]
  iterate 3
    refine wpG_pure fun K hK => ?_
    go_simp
    refine hK _ ?_
    clear hK K
  refine wpG_val (.int .i64 (B : Int)) (by first | rfl | go_simp) (fun X hX => by have cc := (B0.fr0 (hfb1.trans0 hX)).cell; go_simp) ?_
  simp only [Act.put, List.setIfInBounds_toArray, List.set_cons_zero, List.set_cons_succ]
  refine wpG_one fun K hK => ?_
  go_simp
  refine (iSize_calls _ hLd1.st.img).mono ?_
  rintro e w5 ⟨rfl, rfl⟩
  refine hK _ _ (Fr.refl _ _) ?_
  clear hK K
  iterate 1
    refine wpG_pure fun K hK => ?_
    go_simp
    refine hK _ ?_
    clear hK K
  refine wpG_one fun K hK => ?_
  go_simp
  rw [hsh1.out]
  refine (hLd1.readA hA1.out).mono ?_
  rintro e w61 ⟨v1, rfl, hv1, ho1, hf61⟩
  refine hK _ _ (hf61) ?_
  clear hK K
  iterate 5
    refine wpG_pure fun K hK => ?_
    go_simp
    refine hK _ ?_
    clear hK K
  refine wpG_end ?_
  clear hsh1 hA81 hfb1
  have hL2 := hLd1.keep hf61
  have hWd : Hid (readI R 0 (R.t.length * 2 ^ R.B) = readI R 0 A1) := hidIt (by rw [hA1.out, hL.hB])
  rw [hWd.out] at hv1
  obtain ⟨W, hW⟩ : ∃ W, Hid (readI R 0 A1 = W) := ⟨_, hidIt rfl⟩
  rw [hW.out] at hv1
  clear hL hLd1 hdr1 hWd c0 ho1
  obtain ⟨va, vc, rfl, _⟩ := hv1.open
  go_wp2_with fail
  refine (iFree_calls _ hL2.st.img).mono ?_
  rintro e w7 ⟨rfl, rfl⟩
  go_wp2_with fail
  refine (iSize_calls _ hL2.st.img).mono ?_
  rintro e w7 ⟨rfl, rfl⟩
  go_wp2_with fail
  refine (iCopy_calls _ hL2.st.img hL2.ok).mono ?_
  rintro e w8 ⟨jb, pc, rfl, hIc, hnc, hf8⟩
  have hLc : LawI w61 w8 jb pc R B r := ⟨⟨hIc, hnc, hf8⟩, hL2.ok, hL2.hB, hL2.hr⟩
  have hzc : w.heap.size ≤ w61.heap.size := Nat.le_trans hz hL2.st.fr.size
  have hv6 := hv2.fr0 hL2.st.fr
  clear hIc hnc hf8 hf61
  go_wp2_with fail
  go_loopw [17, 79] (fun _ i wr => ∃ (k : Nat) (q : Pl) (C : Img), k ≤ l2.length ∧ i = .int .i64 k ∧ LawI w61 wr jb q C B r) (fun _ i _ => l2.length - (intOf i).toNat)
  case atStart => exact ⟨0, _, _, Nat.zero_le _, rfl, hLc⟩
  clear hLc pc
  obtain ⟨k, pc, C, hk, rfl, hLc⟩ := hrel
  by_cases hlt : k < l2.length
  case pos =>
    obtain ⟨b, off, vb, rfl, hb, hbn, hbv, d0, d1, d2, d3, d4⟩ := (hv6.fr0 hLc.st.fr).at hlt
    generalize l2.getD k zOI = o at *
    have hL2 := hLc.keep ((Fr.refl [] wr).alloc (.cells #[.int .i64 o.k, .int .i64 o.x, .int .i64 o.lo, vb, strL o.nm] 33))
    have hbv2 := hbv.fr ((Fr.refl [] wr).alloc (.cells #[.int .i64 o.k, .int .i64 o.x, .int .i64 o.lo, vb, strL o.nm] 33)) (fun _ h => by cases h)
    have B9 := (Blk.new wr [.int .i64 o.k, .int .i64 o.x, .int .i64 o.lo, vb, strL o.nm] 33).cell
    have kD := hL2.does hzc o vb hbv2
    obtain ⟨vb1, vc1, rfl, _⟩ := hbv.sl.open
    obtain ⟨ok, ox, olo, ob, onm⟩ := o
    unfold opiV at kD
    clear hbv hbv2 hL2
    go_wp2_with fail
    refine kD.mono ?_
    rintro e w3 ⟨p3, rfl, hL3, hs3⟩
    clear kD
    go_wp2
    go_roundw
    case rel => exact ⟨k + 1, p3, _, by omega, by go_num, hL3⟩
    case measure => simp [intOf]; omega
  have hke : k = l2.length := by omega
  subst hke
  have hLm := hL2.keep hLc.st.fr
  have hv7 := SlF.fr0 hv1 hLc.st.fr
  have hFw := hL2.st.fr.trans0 hLc.st.fr
  clear hlt hk hL2 hLc hv1 hv6
  obtain ⟨A9, hA9, hA89, hsh9⟩ := hLm.allD
  have hdr9 := (Fr.refl [] wr).drew
  have hLd9 := hLm.keep hdr9
  have hfb9 := hFw.drew
  go_wp2_with fail
  refine wp_region_G (Fr [] wr.drew) [(true, 0), (true, 1), (true, 3), (true, 4), (false, 2), (true, 5), (false, 6), (true, 7), (true, 8), (true, 9), (true, 10), (true, 11)] (by as_aux_lemma => kernel_rfl) (by as_aux_lemma => kernel_rfl) (Fr.refl _ _) ?_
  simp only [inOrder, List.map_cons, List.map_nil, List.getD_cons_zero, List.getD_cons_succ]
  iterate 3
    refine wpG_pure fun K hK => ?_
    go_simp
    refine hK _ ?_
    clear hK K
  refine wpG_val (.int .i64 (B : Int)) (by first | rfl | go_simp) (fun X hX => by have cc := (B0.fr0 (hfb9.trans0 hX)).cell; go_simp) ?_
  simp only [Act.put, List.setIfInBounds_toArray, List.set_cons_zero, List.set_cons_succ]
  refine wpG_one fun K hK => ?_
  go_simp
  refine (iSize_calls _ hLd9.st.img).mono ?_
  rintro e w5 ⟨rfl, rfl⟩
  refine hK _ _ (Fr.refl _ _) ?_
  clear hK K
  iterate 1
    refine wpG_pure fun K hK => ?_
    go_simp
    refine hK _ ?_
    clear hK K
  refine wpG_one fun K hK => ?_
  go_simp
  rw [hsh9.out]
  refine (hLd9.readA hA9.out).mono ?_
  rintro e w69 ⟨v9, rfl, hv9, ho9, hf69⟩
  refine hK _ _ (hf69) ?_
  clear hK K
  iterate 5
    refine wpG_pure fun K hK => ?_
    go_simp
    refine hK _ ?_
    clear hK K
  refine wpG_end ?_
  clear hsh9 hA89 hfb9
  have hL9 := hLd9.keep hf69
  have hWd : Hid (readI R 0 (R.t.length * 2 ^ R.B) = W) := hidIt (by rw [← hW.out, hA1.out, hLm.hB])
  rw [hWd.out] at hv9
  have hv8 := SlF.fr0 hv7 (hdr9.trans0 hf69)
  clear hLm hLd9 hdr9 hWd ho9 hf69 hv7 hFw hA9 hA1
  obtain ⟨va9, vc9, rfl, _⟩ := hv9.open
  go_wp2_with fail
  refine (iAlive_calls _).mono ?_
  rintro e w10 ⟨rfl, hf10⟩
  have hL10 := hL9.keep hf10
  have k1 := conv_str (slY_fr0 hv9 hf10)
  have k2 := conv_str (slY_fr0 hv8 hf10)
  clear hv9 hv8 hL9 hf10
  go_wp2_with fail
  refine (iFree_calls _ hL10.st.img).mono ?_
  rintro e w11 ⟨rfl, rfl⟩
  go_wp2_with fail
  refine (iSize_calls _ hL10.st.img).mono ?_
  rintro e w11 ⟨rfl, rfl⟩
  go_wp2
  go_ret
  exact ⟨rfl, hf0.trans0 hL10.st.fr⟩
end Go.Proofs.Ytilhbjjjmdnjmaa
