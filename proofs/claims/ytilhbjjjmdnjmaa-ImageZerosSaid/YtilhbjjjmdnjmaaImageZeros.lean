/-
  law12.ImageZeros: the walk.
-/
import Derived.Test.YtilhbjjjmdnjmaaM37
namespace Go.Proofs.Ytilhbjjjmdnjmaa
open Go.RowKit Go.Maps
attribute [local go_sem] mapAt_alloc mapAt_setCell mapAt_drew mapAt_drewN cells_str store_str eql_str neq_str guard_str len_str
attribute [local go_sem high] cutFromY cutToY cutMidY
set_option maxRecDepth 100000 in
set_option maxHeartbeats 3200000 in
theorem ImageZeros_any (w : World) (a1 a2 a3 : Int) (v : Value) (l : List OpI) (hv : OpsW w w.heap.size v l) (vo : Value) (oo : OpI) (hvo : BytW w w.heap.size vo oo.b) :
    Calls Try.prog 5 #[.agg #[.int .i64 a1, .int .i64 a2, .int .i64 a3], v, opiV oo vo] w fun e w' => e = .returned (.bool true) ∧ Fr [] w w' := by
  obtain ⟨a, cap, rfl, hlc, hcm⟩ := hv.open
  unfold maxLen at hcm
  obtain ⟨ok1, ox1, olo1, ob1, onm1⟩ := oo
  obtain ⟨vq, vqc, rfl, _⟩ := hvo.sl.open
  unfold opiV
  simp only at hvo ⊢
  have hf0 := (Fr.refl [] w).alloc (.cells #[.int .i64 a1, .int .i64 a2, .int .i64 a3] 23)
  have B0 := Blk.new w [.int .i64 a1, .int .i64 a2, .int .i64 a3] 23
  have Bo := Blk.new' (w := w.alloc (.cells #[.int .i64 a1, .int .i64 a2, .int .i64 a3] 23)) (n := w.heap.size + 1) (by simp) [.int .i64 ok1, .int .i64 ox1, .int .i64 olo1, .slice vq ob1.length vqc, strL onm1] 33
  replace B0 := B0.alloc (.cells #[.int .i64 ok1, .int .i64 ox1, .int .i64 olo1, .slice vq ob1.length vqc, strL onm1] 33)
  replace hf0 := hf0.alloc (.cells #[.int .i64 ok1, .int .i64 ox1, .int .i64 olo1, .slice vq ob1.length vqc, strL onm1] 33)
  have hz := hf0.size
  replace hv := hv.fr0 hf0
  replace hvo := hvo.fr hf0 (fun _ h => by cases h)
  have c0 := B0.cell
  by_cases hok : okSeat a1 a2 a3
  case neg =>
    go_enter Try.func5, Try.ntmps5
    go_wp2_with fail
    refine (iNew_no a1 a2 a3 _ hok).mono ?_
    rintro e w1 ⟨rfl, hf1⟩
    go_wp2_with fail
    refine (iAlive_calls _).mono ?_
    rintro e w9 ⟨rfl, hf9⟩
    go_wp2
    go_ret
    exact ⟨rfl, (hf0.trans0 hf1).trans0 hf9⟩
  obtain ⟨B, rfl⟩ : ∃ B : Nat, a1 = B := ⟨a1.toNat, by unfold okSeat at hok; omega⟩
  obtain ⟨n, rfl⟩ : ∃ n : Nat, a2 = n := ⟨a2.toNat, by unfold okSeat at hok; omega⟩
  obtain ⟨r, rfl⟩ : ∃ r : Nat, a3 = r := ⟨a3.toNat, by unfold okSeat at hok; omega⟩
  have hB3 : B ≤ 3 := by unfold okSeat at hok; omega
  generalize hw1 : ((w.alloc (.cells #[.int .i64 (B : Int), .int .i64 (n : Int), .int .i64 (r : Int)] 23)).alloc (.cells #[.int .i64 ok1, .int .i64 ox1, .int .i64 olo1, .slice vq ob1.length vqc, strL onm1] 33)) = w1 at *
  go_enter Try.func5, Try.ntmps5
  go_wp2_with fail
  try rw [hw1]
  refine (iNew_yes B n r _ hok).mono ?_
  intro e w2 hp
  obtain ⟨ib, p, rfl, hst⟩ := new_St hp
  have hL := LawI.made hok hst
  clear hp hst hok hw1
  replace c0 := (B0.fr0 hL.st.fr).cell
  go_wp2_with fail
  refine (iFew_calls _ _ _ _ (.slice a l.length cap) l _ (hv.fr0 hL.st.fr)).mono ?_
  rintro e w3 ⟨b0, rfl, hfb0⟩
  replace hL := hL.keep hfb0
  replace c0 := (B0.fr0 hL.st.fr).cell
  clear hfb0
  cases b0
  case false =>
    go_wp2_with fail
    refine (iAlive_calls _).mono ?_
    rintro e w9 ⟨rfl, hf9⟩
    go_wp2
    go_ret
    exact ⟨rfl, (hf0.trans0 hL.st.fr).trans0 hf9⟩
  go_wp2_with fail
  go_loopw [10, 42] (fun _ i wr => ∃ (k : Nat) (q : Pl) (R : Img), k ≤ l.length ∧ i = .int .i64 k ∧ LawI w1 wr ib q R B r) (fun _ i _ => l.length - (intOf i).toNat)
  case atStart => exact ⟨0, _, _, Nat.zero_le _, rfl, hL⟩
  clear hL c0
  obtain ⟨k, q, R, hk, rfl, hL⟩ := hrel
  have c0 := (B0.fr0 hL.st.fr).cell
  by_cases hlt : k < l.length
  case pos =>
    obtain ⟨b, off, vb, rfl, hb, hbn, hbv, d0, d1, d2, d3, d4⟩ := (hv.fr0 hL.st.fr).at hlt
    generalize l.getD k zOI = o at *
    have hL2 := hL.keep ((Fr.refl [] wr).alloc (.cells #[.int .i64 o.k, .int .i64 o.x, .int .i64 o.lo, vb, strL o.nm] 33))
    have hbv2 := hbv.fr ((Fr.refl [] wr).alloc (.cells #[.int .i64 o.k, .int .i64 o.x, .int .i64 o.lo, vb, strL o.nm] 33)) (fun _ h => by cases h)
    have B9 := (Blk.new wr [.int .i64 o.k, .int .i64 o.x, .int .i64 o.lo, vb, strL o.nm] 33).cell
    have kD := hL2.does hz o vb hbv2
    obtain ⟨vb1, vc1, rfl, _⟩ := hbv.sl.open
    obtain ⟨ok, ox, olo, ob, onm⟩ := o
    unfold opiV at kD
    clear hbv hbv2 hL2
    go_wp2_with fail
    refine kD.mono ?_
    rintro e w3 ⟨p3, rfl, hL3, hs3⟩
    clear kD
    go_wp2
    go_roundw
    case rel => exact ⟨k + 1, p3, _, by omega, by go_num, hL3⟩
    case measure => simp [intOf]; omega
  have hke : k = l.length := by omega
  subst hke
  clear hlt hk hlc hv
  obtain ⟨A1, hA1, hA81, hsh1⟩ := hL.allD
  have hdr1 := (Fr.refl [] wr).drew
  have hLd1 := hL.keep hdr1
  have hfb1 := hL.st.fr.drew
  go_wp2_with fail
  refine wp_region_G (Fr [] wr.drew) [(true, 0), (true, 1), (true, 3), (true, 4), (false, 2), (true, 5), (false, 6), (true, 7), (true, 8), (true, 9), (true, 10), (true, 11)] (by as_aux_lemma => kernel_rfl) (by as_aux_lemma => kernel_rfl) (Fr.refl _ _) ?_
  simp only [inOrder, List.map_cons, List.map_nil, List.getD_cons_zero, List.getD_cons_succ]
  iterate 3
    refine wpG_pure fun K hK => ?_
    go_simp
    refine hK _ ?_
    clear hK K
  refine wpG_val (.int .i64 (B : Int)) (by first | rfl | go_simp) (fun X hX => by have cc := (B0.fr0 (hfb1.trans0 hX)).cell; go_simp) ?_
  simp only [Act.put, List.setIfInBounds_toArray, List.set_cons_zero, List.set_cons_succ]
  refine wpG_one fun K hK => ?_
  go_simp
  refine (iSize_calls _ hLd1.st.img).mono ?_
  rintro e w5 ⟨rfl, rfl⟩
  refine hK _ _ (Fr.refl _ _) ?_
  clear hK K
  iterate 1
    refine wpG_pure fun K hK => ?_
    go_simp
    refine hK _ ?_
    clear hK K
  refine wpG_one fun K hK => ?_
  go_simp
  rw [hsh1.out]
  refine (hLd1.readA hA1.out).mono ?_
  rintro e w61 ⟨v1, rfl, hv1, ho1, hf61⟩
  refine hK _ _ (hf61) ?_
  clear hK K
  iterate 5
    refine wpG_pure fun K hK => ?_
    go_simp
    refine hK _ ?_
    clear hK K
  refine wpG_end ?_
  clear hsh1 hA81 hfb1
  have hL2 := hLd1.keep hf61
  have hap := hLd1.apart hv1 ho1
  have hlen := all_le hL2.ok.toOkJ
  rw [hL2.hB, ← hA1.out] at hlen
  have hWd : Hid (readI R 0 (R.t.length * 2 ^ R.B) = seg R 0 (16 * A1)) := hidIt (by rw [hA1.out, hL.hB]; rfl)
  rw [hWd.out] at hap
  have hsl1 : (seg R 0 (16 * A1)).length = 16 * A1 := seg_len _ _ _
  obtain ⟨va1, vc1, rfl, hvc1, _⟩ := hap.sl.open
  rw [hsl1] at hap hvc1 ⊢
  have hco := (Bo.fr0 hL2.st.fr)
  have co := hco.cell
  have kW := iZero_calls ox1 olo1 .nilFunc [] _ hL2.st.img hL2.ok (BelW.nil _ _)
  have kK := zero_K hL2.ok ox1 olo1 [] (fun _ => False)
  have hws := fun R' => zero_said (M := R) (R := R') hL2.ok (x := ox1) (l := olo1)
  have hRB := hL2.hB
  obtain ⟨⟨cc, R3⟩, hwr⟩ : ∃ x, zeroE R ox1 olo1 [] = x := ⟨_, rfl⟩
  have hws3 := hws R3
  rw [hwr] at kW kK hws3
  clear hL hv1 ho1 hLd1 hdr1 hf61 hWd hws hwr c0
  go_wp2_with fail
  refine kW.mono ?_
  intro e w3 hp
  obtain ⟨q3, rfl, hL3, hs3⟩ := hL2.res hp kK
  simp only at hL3
  have hap3 := hap.step hs3
  have c3 := (B0.fr0 hL3.st.fr).cell
  clear hp hs3 hap kW kK hL2 co
  by_cases hcc : cc = 0
  case neg =>
    have hcc' : (cc == 0) = false := by simpa using hcc
    clear hws3
    go_wp2_with fail
    refine (iAlive_calls _).mono ?_
    rintro e w9 ⟨rfl, hf9⟩
    go_wp2
    go_ret
    exact ⟨rfl, (hf0.trans0 hL3.st.fr).trans0 hf9⟩
  subst hcc
  obtain ⟨at_, m, rfl, rfl, hin, hok3, hB3, ht3, hcx⟩ := hws3 rfl
  have hzl : (zBy (16 * m)).length = 16 * m := by simp [zBy]
  have hcx : ∀ y, conX R3 y = if 16 * at_ ≤ y ∧ y < 16 * at_ + (zBy (16 * m)).length then (zBy (16 * m)).getD (y - 16 * at_) 0 else conX R y := fun y => by
    rw [hcx y, hzl]
    split
    · simp only [zBy, List.getD_eq_getElem?_getD, List.getElem?_replicate]
      split <;> rfl
    · rfl
  rw [hRB, ← hA1.out] at hin
  have hbl16 : 16 * at_ + (zBy (16 * m)).length ≤ 16 * A1 := by omega
  obtain ⟨e1, e2, e3⟩ := wrote hcx hbl16
  have ht3' := hidIt ht3
  clear hcx ht3 hB3
  rw [hzl] at e2 e3
  clear hzl
  replace e1 := hidIt e1
  replace e2 := hidIt e2
  replace e3 := hidIt e3
  replace hsl1 := hidIt hsl1
  obtain ⟨A2, hA2, hA82, hsh2⟩ := hL3.allD
  have hdr2 := (Fr.refl [] w3).drew
  have hLd2 := hL3.keep hdr2
  have hfb2 := hL3.st.fr.drew
  go_wp2_with fail
  refine wp_region_G (Fr [] w3.drew) [(true, 0), (true, 1), (true, 3), (true, 4), (false, 2), (true, 5), (false, 6), (true, 7), (true, 8), (true, 9), (true, 10), (true, 11)] (by as_aux_lemma => kernel_rfl) (by as_aux_lemma => kernel_rfl) (Fr.refl _ _) ?_
  simp only [inOrder, List.map_cons, List.map_nil, List.getD_cons_zero, List.getD_cons_succ]
  iterate 3
    refine wpG_pure fun K hK => ?_
    go_simp
    refine hK _ ?_
    clear hK K
  refine wpG_val (.int .i64 (B : Int)) (by first | rfl | go_simp) (fun X hX => by have cc := (B0.fr0 (hfb2.trans0 hX)).cell; go_simp) ?_
  simp only [Act.put, List.setIfInBounds_toArray, List.set_cons_zero, List.set_cons_succ]
  refine wpG_one fun K hK => ?_
  go_simp
  refine (iSize_calls _ hLd2.st.img).mono ?_
  rintro e w5 ⟨rfl, rfl⟩
  refine hK _ _ (Fr.refl _ _) ?_
  clear hK K
  iterate 1
    refine wpG_pure fun K hK => ?_
    go_simp
    refine hK _ ?_
    clear hK K
  refine wpG_one fun K hK => ?_
  go_simp
  rw [hsh2.out]
  refine (hLd2.readA hA2.out).mono ?_
  rintro e w62 ⟨v2, rfl, hv2, ho2, hf62⟩
  refine hK _ _ (hf62) ?_
  clear hK K
  iterate 5
    refine wpG_pure fun K hK => ?_
    go_simp
    refine hK _ ?_
    clear hK K
  refine wpG_end ?_
  clear hsh2 hA82 hfb2
  have hA12 : A2 = A1 := by rw [hA2.out, hA1.out, ht3'.out]
  replace e1 := e1.out
  replace e2 := e2.out
  replace e3 := e3.out
  have hL4 := hLd2.keep hf62
  have hap4 := (hap3.keep hdr2).keep hf62
  have hWd : Hid (readI R3 0 (R3.t.length * 2 ^ R3.B) = seg R3 0 (16 * A1)) := hidIt (by rw [← hA12, hA2.out, hL3.hB]; rfl)
  rw [hWd.out] at hv2
  have hsl2 : (seg R3 0 (16 * A1)).length = 16 * A1 := seg_len _ _ _
  obtain ⟨va2, vc2, rfl, hvc2, _⟩ := hv2.open
  rw [hsl2] at hv2 hvc2 ⊢
  have hv4 := hap4.sl
  have co4 := Bo.fr0 hL4.st.fr
  obtain ⟨N, hN⟩ : ∃ N, Hid (N = 16 * A1) := ⟨_, hidIt rfl⟩
  obtain ⟨lo, hlo⟩ : ∃ lo, Hid (lo = 16 * at_) := ⟨_, hidIt rfl⟩
  obtain ⟨D, hD⟩ : ∃ D, Hid (D = 16 * m) := ⟨_, hidIt rfl⟩
  obtain ⟨hi, hhi⟩ : ∃ hi, Hid (hi = lo + D) := ⟨_, hidIt rfl⟩
  rw [← hN.out] at hvc1 hvc2 hv4 hv2 e1 e2 e3 ⊢
  rw [← hlo.out] at e1 e2 e3
  rw [← hD.out] at e2 e3 hbl16
  rw [← hhi.out] at e3
  have hb1 : lo ≤ hi := by have := hhi.out; omega
  have hb2 : hi ≤ N := by have := hhi.out; have := hlo.out; have := hN.out; have := hD.out; omega
  have hN8 : N ≤ 32768 := by have := hN.out; omega
  have hA8' : 16 * at_ + 16 * m ≤ 32768 := by have := hhi.out; have := hlo.out; have := hN.out; have := hD.out; omega
  have hat : (at_ : Int) * 16 = (lo : Int) := by have := hlo.out; omega
  obtain ⟨am, ham⟩ : ∃ am : Nat, Hid (am = at_ + m) := ⟨_, hidIt rfl⟩
  have hsum : (at_ : Int) + (m : Int) = (am : Int) := by have := ham.out; omega
  have hat2 : (am : Int) * 16 = (hi : Int) := by have := ham.out; have := hlo.out; have := hhi.out; have := hD.out; omega
  have hw1 : IntKind.i64.wrap (lo : Int) = (lo : Int) := IntWalk.i64_in _ (by omega)
  have hw2 : IntKind.i64.wrap (am : Int) = (am : Int) := IntWalk.i64_in _ (by have := ham.out; omega)
  have hwi : IntKind.i64.wrap (hi : Int) = (hi : Int) := IntWalk.i64_in _ (by omega)
  have hwd : IntKind.i64.wrap (D : Int) = (D : Int) := IntWalk.i64_in _ (by have := hhi.out; omega)
  have hsub : (hi : Int) - (lo : Int) = (D : Int) := by have := hhi.out; omega
  have hbh : hi - lo = D := by have := hhi.out; omega
  have hD8 : D ≤ 65536 := by have := hhi.out; omega
  have hb0 : lo ≤ N := by omega
  have hb3 : lo ≤ vc1 := by omega
  have hb4 : lo ≤ vc2 := by omega
  have hb5 : hi ≤ vc2 := by omega
  obtain ⟨P1, hP1⟩ : ∃ P, Hid ((seg R 0 N).take lo = P) := ⟨_, hidIt rfl⟩
  obtain ⟨P3, hP3⟩ : ∃ P, Hid ((seg R 0 N).drop hi = P) := ⟨_, hidIt rfl⟩
  rw [hP1.out] at e1
  rw [hP3.out] at e3
  have hd4 := (Fr.refl [] w62).drew
  have hdd := hd4.drew
  have kN1 := fun X (hX : Fr [] w62.drew.drew X) => conv_to (SlF.fr0 hv2 (hdd.trans0 hX)) hb0
  have kW1 := fun X (hX : Fr [] w62.drew.drew X) => conv_to (SlF.fr0 hv4 (hdd.trans0 hX)) hb0
  have kN2 := fun X (hX : Fr [] w62.drew.drew X) => conv_mid (SlF.fr0 hv2 (hdd.trans0 hX)) hb2 hb1
  have kN3 := fun X (hX : Fr [] w62.drew.drew X) => conv_from (SlF.fr0 hv2 (hdd.trans0 hX)) hb2
  have kW3 := fun X (hX : Fr [] w62.drew.drew X) => conv_from (SlF.fr0 hv4 (hdd.trans0 hX)) hb2
  simp only [e1] at kN1
  simp only [hP1.out] at kW1
  have e2' : ((seg R3 0 N).take hi).drop lo = zBy D := by rw [List.drop_take, hbh]; exact e2
  simp only [e2'] at kN2
  simp only [e3] at kN3
  simp only [hP3.out] at kW3
  have hFF := hL4.st.fr
  have cq4 := co4.cell
  obtain ⟨Z, hZ⟩ : ∃ Z, Hid (zBy D = Z) := ⟨_, hidIt rfl⟩
  simp only [hZ.out] at kN2
  clear hL3 hLd2 hdr2 hap3 hap4 hL4 hv2 hv4 hWd e1 e2 e2' e3 ho2 hf62 hA1 hA2 hA12 c3 hok3 ht3' hin hbl16 hlen hsl1 hsl2 hco hN hlo hhi hP1 hP3 hbh hD
  go_wp2_with fail
  refine wp_region_G (Fr [] w62.drew) [(true, 0), (true, 1), (true, 2), (true, 3), (true, 4), (true, 5), (true, 6), (true, 7), (true, 8), (true, 9), (true, 10)] (by as_aux_lemma => kernel_rfl) (by as_aux_lemma => kernel_rfl) (Fr.refl _ _) ?_
  simp only [inOrder, List.map_cons, List.map_nil, List.getD_cons_zero, List.getD_cons_succ]
  iterate 1
    refine wpG_pure fun K hK => ?_
    go_simp
    refine hK _ ?_
    clear hK K
  refine wpG_val (.int .i64 (at_ : Int)) (by first | rfl | go_simp) (fun X hX => by have cc := (co4.fr0 (hd4.trans0 hX)).cell; go_simp) ?_
  simp only [Act.put, List.setIfInBounds_toArray, List.set_cons_zero, List.set_cons_succ]
  iterate 2
    refine wpG_pure fun K hK => ?_
    go_simp
    refine hK _ ?_
    clear hK K
  refine wpG_val (.int .i64 (at_ : Int)) (by first | rfl | go_simp) (fun X hX => by have cc := (co4.fr0 (hd4.trans0 hX)).cell; go_simp) ?_
  simp only [Act.put, List.setIfInBounds_toArray, List.set_cons_zero, List.set_cons_succ]
  iterate 1
    refine wpG_pure fun K hK => ?_
    go_simp
    refine hK _ ?_
    clear hK K
  refine wpG_val (.int .i64 (m : Int)) (by first | rfl | go_simp) (fun X hX => by have cc := (co4.fr0 (hd4.trans0 hX)).cell; go_simp) ?_
  simp only [Act.put, List.setIfInBounds_toArray, List.set_cons_zero, List.set_cons_succ]
  iterate 4
    refine wpG_pure fun K hK => ?_
    go_simp
    refine hK _ ?_
    clear hK K
  refine wpG_end ?_
  clear hat hat2 hsum hw2 hA8' cq4
  go_wp2_with fail
  refine wp_region_G (Fr [] w62.drew.drew) [(false, 0), (true, 1), (true, 2), (true, 3), (true, 4), (true, 5), (true, 6), (true, 7), (true, 8), (true, 9), (true, 10), (true, 11), (true, 12), (true, 13), (true, 14), (true, 15), (true, 16), (true, 17), (true, 18), (true, 19), (true, 20), (true, 21), (true, 22), (true, 23), (true, 24), (true, 25), (true, 26), (true, 27), (false, 28), (true, 29), (true, 30), (true, 31), (true, 32), (true, 33), (true, 34), (true, 35), (true, 36), (true, 37), (true, 38), (true, 39), (true, 40), (true, 41), (true, 42), (true, 43)] (by as_aux_lemma => kernel_rfl) (by as_aux_lemma => kernel_rfl) (Fr.refl _ _) ?_
  simp only [inOrder, List.map_cons, List.map_nil, List.getD_cons_zero, List.getD_cons_succ]
  refine wpG_one fun K hK => ?_
  go_simp
  refine (iAlive_calls _).mono ?_
  rintro e w70 ⟨rfl, hf70⟩
  refine hK _ _ (hf70) ?_
  clear hK K
  iterate 11
    refine wpG_pure fun K hK => ?_
    go_simp
    refine hK _ ?_
    clear hK K
  refine wpG_val (strL P1) (by first | rfl | go_simp) (fun X hX => by have cc := kN1 X hX; go_simp) ?_
  simp only [Act.put, List.setIfInBounds_toArray, List.set_cons_zero, List.set_cons_succ]
  iterate 3
    refine wpG_pure fun K hK => ?_
    go_simp
    refine hK _ ?_
    clear hK K
  refine wpG_val (strL P1) (by first | rfl | go_simp) (fun X hX => by have cc := kW1 X hX; go_simp) ?_
  simp only [Act.put, List.setIfInBounds_toArray, List.set_cons_zero, List.set_cons_succ]
  iterate 7
    refine wpG_pure fun K hK => ?_
    go_simp
    refine hK _ ?_
    clear hK K
  refine wpG_val (strL Z) (by first | rfl | go_simp) (fun X hX => by have cc := kN2 X hX; go_simp) ?_
  simp only [Act.put, List.setIfInBounds_toArray, List.set_cons_zero, List.set_cons_succ]
  iterate 3
    refine wpG_pure fun K hK => ?_
    go_simp
    refine hK _ ?_
    clear hK K
  obtain ⟨w80, hrun, hown, hg⟩ := makeY D w70 (by omega)
  have hf80 := (Fr.refl [] w70).grown hg (fun x hx => by cases hx)
  have hzD : (zBy D).length = D := by simp [zBy]
  have hvz : SlY w80 (.slice (some ⟨w70.heap.size, 0, none⟩) D D) (zBy D) := SlF.of_owns (by rw [hzD]; exact hown)
  rw [hZ.out] at hvz
  clear hzD hown hg
  have hS8 := hf70.trans0 hf80
  refine wpG_oneS fun K hK => ?_
  go_simp
  refine hK (fun X => Fr [] w80 X) (fun X h => hS8.trans0 h) _ _ (Fr.refl _ _) ?_
  clear hK K hrun
  refine wpG_val (strL Z) (by first | rfl | go_simp) (fun X hX => by have cc := conv_str (SlF.fr0 hvz hX); go_simp) ?_
  simp only [Act.put, List.setIfInBounds_toArray, List.set_cons_zero, List.set_cons_succ]
  iterate 6
    refine wpG_pure fun K hK => ?_
    go_simp
    refine hK _ ?_
    clear hK K
  refine wpG_val (strL P3) (by first | rfl | go_simp) (fun X hX => by have cc := kN3 X (hS8.trans0 hX); go_simp) ?_
  simp only [Act.put, List.setIfInBounds_toArray, List.set_cons_zero, List.set_cons_succ]
  iterate 3
    refine wpG_pure fun K hK => ?_
    go_simp
    refine hK _ ?_
    clear hK K
  refine wpG_val (strL P3) (by first | rfl | go_simp) (fun X hX => by have cc := kW3 X (hS8.trans0 hX); go_simp) ?_
  simp only [Act.put, List.setIfInBounds_toArray, List.set_cons_zero, List.set_cons_succ]
  iterate 3
    refine wpG_pure fun K hK => ?_
    go_simp
    refine hK _ ?_
    clear hK K
  refine wpG_end ?_
  have hfin := (hf0.trans0 hFF).trans0 (hdd.trans0 hS8)
  clear kN1 kW1 kN2 kN3 kW3
  go_wp2
  go_ret
  exact ⟨rfl, hfin⟩
end Go.Proofs.Ytilhbjjjmdnjmaa
