/-
  law12.ImageNothing: the walk.
-/
import Derived.Test.YtilhbjjjmdnjmaaM37
import Derived.Test.YtilhbjjjmdnjmaaM42
import Derived.Test.YtilhbjjjmdnjmaaM44
namespace Go.Proofs.Ytilhbjjjmdnjmaa
open Go.RowKit Go.Maps
attribute [local go_sem] mapAt_alloc mapAt_setCell mapAt_drew mapAt_drewN cells_str store_str eql_str neq_str guard_str len_str
set_option maxRecDepth 100000 in
set_option maxHeartbeats 3200000 in
theorem ImageNothing_any (w : World) (a1 a2 a3 : Int) (v : Value) (l : List OpI) (hv : OpsW w w.heap.size v l) (vo : Value) (oo : OpI) (hvo : BytW w w.heap.size vo oo.b) :
    Calls Try.prog 9 #[.agg #[.int .i64 a1, .int .i64 a2, .int .i64 a3], v, opiV oo vo] w fun e w' => e = .returned (.bool true) ∧ Fr [] w w' := by
  obtain ⟨a, cap, rfl, hlc, hcm⟩ := hv.open
  unfold maxLen at hcm
  obtain ⟨ok1, ox1, olo1, ob1, onm1⟩ := oo
  obtain ⟨vq, vqc, rfl, _⟩ := hvo.sl.open
  unfold opiV
  simp only at hvo ⊢
  have hf0 := (Fr.refl [] w).alloc (.cells #[.int .i64 a1, .int .i64 a2, .int .i64 a3] 23)
  have B0 := Blk.new w [.int .i64 a1, .int .i64 a2, .int .i64 a3] 23
  have Bo := Blk.new' (w := w.alloc (.cells #[.int .i64 a1, .int .i64 a2, .int .i64 a3] 23)) (n := w.heap.size + 1) (by simp) [.int .i64 ok1, .int .i64 ox1, .int .i64 olo1, .slice vq ob1.length vqc, strL onm1] 33
  replace B0 := B0.alloc (.cells #[.int .i64 ok1, .int .i64 ox1, .int .i64 olo1, .slice vq ob1.length vqc, strL onm1] 33)
  replace hf0 := hf0.alloc (.cells #[.int .i64 ok1, .int .i64 ox1, .int .i64 olo1, .slice vq ob1.length vqc, strL onm1] 33)
  have hz := hf0.size
  replace hv := hv.fr0 hf0
  replace hvo := hvo.fr hf0 (fun _ h => by cases h)
  have c0 := B0.cell
  by_cases hok : okSeat a1 a2 a3
  case neg =>
    go_enter Try.func9, Try.ntmps9
    go_wp2_with fail
    refine (iNew_no a1 a2 a3 _ hok).mono ?_
    rintro e w1 ⟨rfl, hf1⟩
    go_wp2_with fail
    refine (iAlive_calls _).mono ?_
    rintro e w9 ⟨rfl, hf9⟩
    go_wp2
    go_ret
    exact ⟨rfl, (hf0.trans0 hf1).trans0 hf9⟩
  obtain ⟨B, rfl⟩ : ∃ B : Nat, a1 = B := ⟨a1.toNat, by unfold okSeat at hok; omega⟩
  obtain ⟨n, rfl⟩ : ∃ n : Nat, a2 = n := ⟨a2.toNat, by unfold okSeat at hok; omega⟩
  obtain ⟨r, rfl⟩ : ∃ r : Nat, a3 = r := ⟨a3.toNat, by unfold okSeat at hok; omega⟩
  have hB3 : B ≤ 3 := by unfold okSeat at hok; omega
  generalize hw1 : ((w.alloc (.cells #[.int .i64 (B : Int), .int .i64 (n : Int), .int .i64 (r : Int)] 23)).alloc (.cells #[.int .i64 ok1, .int .i64 ox1, .int .i64 olo1, .slice vq ob1.length vqc, strL onm1] 33)) = w1 at *
  go_enter Try.func9, Try.ntmps9
  go_wp2_with fail
  try rw [hw1]
  refine (iNew_yes B n r _ hok).mono ?_
  intro e w2 hp
  obtain ⟨ib, p, rfl, hst⟩ := new_St hp
  have hL := LawI.made hok hst
  clear hp hst hok hw1
  replace c0 := (B0.fr0 hL.st.fr).cell
  go_wp2_with fail
  refine (iFew_calls _ _ _ _ (.slice a l.length cap) l _ (hv.fr0 hL.st.fr)).mono ?_
  rintro e w3 ⟨b0, rfl, hfb0⟩
  replace hL := hL.keep hfb0
  replace c0 := (B0.fr0 hL.st.fr).cell
  clear hfb0
  cases b0
  case false =>
    go_wp2_with fail
    refine (iAlive_calls _).mono ?_
    rintro e w9 ⟨rfl, hf9⟩
    go_wp2
    go_ret
    exact ⟨rfl, (hf0.trans0 hL.st.fr).trans0 hf9⟩
  have hOne := OpsW.one (o := ⟨ok1, ox1, olo1, ob1, onm1⟩) (Blk.new w3 [.int .i64 ok1, .int .i64 ox1, .int .i64 olo1, .slice vq ob1.length vqc, strL onm1] 33) ((hvo.fr hL.st.fr (fun _ h => by cases h)).fr ((Fr.refl [] w3).alloc (.cells #[.int .i64 ok1, .int .i64 ox1, .int .i64 olo1, .slice vq ob1.length vqc, strL onm1] 33)) (fun _ h => by cases h)) (Nat.le_trans hz hL.st.fr.size)
  have co := (Bo.fr0 hL.st.fr).cell
  replace hL := hL.keep ((Fr.refl [] w3).alloc (.cells #[.int .i64 ok1, .int .i64 ox1, .int .i64 olo1, .slice vq ob1.length vqc, strL onm1] 33))
  go_wp2_with fail
  refine (iFew_calls _ _ _ _ _ [⟨ok1, ox1, olo1, ob1, onm1⟩] _ (hOne)).mono ?_
  rintro e w4 ⟨b1, rfl, hfb1⟩
  replace hL := hL.keep hfb1
  replace c0 := (B0.fr0 hL.st.fr).cell
  clear hfb1
  cases b1
  case false =>
    go_wp2_with fail
    refine (iAlive_calls _).mono ?_
    rintro e w9 ⟨rfl, hf9⟩
    go_wp2
    go_ret
    exact ⟨rfl, (hf0.trans0 hL.st.fr).trans0 hf9⟩
  go_wp2_with fail
  go_loopw [10, 51] (fun _ i wr => ∃ (k : Nat) (q : Pl) (R : Img), k ≤ l.length ∧ i = .int .i64 k ∧ LawI w1 wr ib q R B r) (fun _ i _ => l.length - (intOf i).toNat)
  case atStart => exact ⟨0, _, _, Nat.zero_le _, rfl, hL⟩
  clear hL c0 co hOne
  obtain ⟨k, q, R, hk, rfl, hL⟩ := hrel
  have co := (Bo.fr0 hL.st.fr).cell
  have c0 := (B0.fr0 hL.st.fr).cell
  by_cases hlt : k < l.length
  case pos =>
    obtain ⟨b, off, vb, rfl, hb, hbn, hbv, d0, d1, d2, d3, d4⟩ := (hv.fr0 hL.st.fr).at hlt
    generalize l.getD k zOI = o at *
    have hL2 := hL.keep ((Fr.refl [] wr).alloc (.cells #[.int .i64 o.k, .int .i64 o.x, .int .i64 o.lo, vb, strL o.nm] 33))
    have hbv2 := hbv.fr ((Fr.refl [] wr).alloc (.cells #[.int .i64 o.k, .int .i64 o.x, .int .i64 o.lo, vb, strL o.nm] 33)) (fun _ h => by cases h)
    have B9 := (Blk.new wr [.int .i64 o.k, .int .i64 o.x, .int .i64 o.lo, vb, strL o.nm] 33).cell
    have kD := hL2.does hz o vb hbv2
    obtain ⟨vb1, vc1, rfl, _⟩ := hbv.sl.open
    obtain ⟨ok, ox, olo, ob, onm⟩ := o
    unfold opiV at kD
    clear hbv hbv2 hL2
    go_wp2_with fail
    refine kD.mono ?_
    rintro e w3 ⟨p3, rfl, hL3, hs3⟩
    clear kD
    go_wp2
    go_roundw
    case rel => exact ⟨k + 1, p3, _, by omega, by go_num, hL3⟩
    case measure => simp [intOf]; omega
  have hke : k = l.length := by omega
  subst hke
  clear hlt hk hlc hv
  have kD := fun W h hb => LawI.does (w := W) (q := q) (ib := ib) (R := R) (B := B) (r := r) h hz ⟨ok1, ox1, olo1, ob1, onm1⟩ (.slice vq ob1.length vqc) hb
  unfold opiV at kD
  simp only at kD
  go_wp2_with fail
  refine (iCopy_calls _ hL.st.img hL.ok).mono ?_
  rintro e w8 ⟨jb, pc, rfl, hIc, hnc, hf8⟩
  have hLc : LawI wr w8 jb pc R B r := ⟨⟨hIc, hnc, hf8⟩, hL.ok, hL.hB, hL.hr⟩
  have hL8 := hL.keep hf8
  have co8 := (Bo.fr0 hL8.st.fr).cell
  have hb8 := (hvo.fr hL8.st.fr (fun _ h => by cases h))
  have hlow := hL.st.img.low
  clear hIc hnc c0 co
  go_wp2_with fail
  refine (kD _ hL8 hb8).mono ?_
  rintro e w9 ⟨p9, rfl, hL9, hs9⟩
  have herr := op_err (M := R) ⟨ok1, ox1, olo1, ob1, onm1⟩ []
  have hI9 := hLc.st.img.fr hs9.fr (fun k hk => by
    have h1 := hlow k (mem_own.1 hk).2
    cases hr : pc.r k with
    | none => rfl
    | some x =>
      have := hLc.st.new k (by rw [hr]; rfl)
      omega)
  have hok := hL.ok
  have hRB := hL.hB
  have hRr := hL.hr
  clear hLc hL8 hb8 co8 hlow hs9 kD hL hf8
  generalize (opE R ⟨ok1, ox1, olo1, ob1, onm1⟩ []).1 = cc at *
  generalize (opE R ⟨ok1, ox1, olo1, ob1, onm1⟩ []).2 = R9 at *
  generalize opR R ⟨ok1, ox1, olo1, ob1, onm1⟩ = tx at *
  by_cases hcc : cc = 0
  case pos =>
    subst hcc
    go_wp2_with fail
    refine (iAlive_calls _).mono ?_
    rintro e w9 ⟨rfl, hf9⟩
    go_wp2
    go_ret
    exact ⟨rfl, (hf0.trans0 hL9.st.fr).trans0 hf9⟩
  have hR := herr hcc
  subst hR
  have hcc' : (cc == 0) = false := by simpa using hcc
  have hLc := LawI.bare hI9 hok hRB hRr
  clear herr hI9 hok
  obtain ⟨A1, hA1, hA81, hsh1⟩ := hL9.allD
  have hdr1 := (Fr.refl [] w9).drew
  have hLd1 := hL9.keep hdr1
  have hfb1 := hL9.st.fr.drew
  go_wp2_with fail
  refine wp_region_G (Fr [] w9.drew) [(true, 0), (true, 1), (true, 3), (true, 4), (false, 2), (true, 5), (false, 6), (true, 7), (true, 8), (true, 9), (true, 10), (true, 11)] (by as_aux_lemma => kernel_rfl) (by as_aux_lemma => kernel_rfl) (Fr.refl _ _) ?_
  simp only [inOrder, List.map_cons, List.map_nil, List.getD_cons_zero, List.getD_cons_succ]
  iterate 3
    refine wpG_pure fun K hK => ?_
    go_simp
    refine hK _ ?_
    clear hK K
  refine wpG_val (.int .i64 (B : Int)) (by first | rfl | go_simp) (fun X hX => by have cc := (B0.fr0 (hfb1.trans0 hX)).cell; go_simp) ?_
  simp only [Act.put, List.setIfInBounds_toArray, List.set_cons_zero, List.set_cons_succ]
  refine wpG_one fun K hK => ?_
  go_simp
  refine (iSize_calls _ hLd1.st.img).mono ?_
  rintro e w5 ⟨rfl, rfl⟩
  refine hK _ _ (Fr.refl _ _) ?_
  clear hK K
  iterate 1
    refine wpG_pure fun K hK => ?_
    go_simp
    refine hK _ ?_
    clear hK K
  refine wpG_one fun K hK => ?_
  go_simp
  rw [hsh1.out]
  refine (hLd1.readA hA1.out).mono ?_
  rintro e w61 ⟨v1, rfl, hv1, ho1, hf61⟩
  refine hK _ _ (hf61) ?_
  clear hK K
  iterate 5
    refine wpG_pure fun K hK => ?_
    go_simp
    refine hK _ ?_
    clear hK K
  refine wpG_end ?_
  clear hsh1 hA81 hfb1
  have hL10 := hLd1.keep hf61
  have hLc10 := (hLc.keep hdr1).keep hf61
  have hWd : Hid (readI R9 0 (R9.t.length * 2 ^ R9.B) = readI R9 0 A1) := hidIt (by rw [hA1.out, hL9.hB])
  rw [hWd.out] at hv1
  obtain ⟨W, hW⟩ : ∃ W, Hid (readI R9 0 A1 = W) := ⟨_, hidIt rfl⟩
  rw [hW.out] at hv1
  clear hL9 hLc hLd1 hdr1 hWd ho1 hf61
  obtain ⟨va, vc, rfl, _⟩ := hv1.open
  obtain ⟨A2, hA2, hA82, hsh2⟩ := hLc10.allD
  have hdr2 := (Fr.refl [] w61).drew
  have hLd2 := hLc10.keep hdr2
  have hfb2 := hL10.st.fr.drew
  go_wp2_with fail
  refine wp_region_G (Fr [] w61.drew) [(true, 0), (true, 1), (true, 3), (true, 4), (false, 2), (true, 5), (false, 6), (true, 7), (true, 8), (true, 9), (true, 10), (true, 11)] (by as_aux_lemma => kernel_rfl) (by as_aux_lemma => kernel_rfl) (Fr.refl _ _) ?_
  simp only [inOrder, List.map_cons, List.map_nil, List.getD_cons_zero, List.getD_cons_succ]
  iterate 3
    refine wpG_pure fun K hK => ?_
    go_simp
    refine hK _ ?_
    clear hK K
  refine wpG_val (.int .i64 (B : Int)) (by first | rfl | go_simp) (fun X hX => by have cc := (B0.fr0 (hfb2.trans0 hX)).cell; go_simp) ?_
  simp only [Act.put, List.setIfInBounds_toArray, List.set_cons_zero, List.set_cons_succ]
  refine wpG_one fun K hK => ?_
  go_simp
  refine (iSize_calls _ hLd2.st.img).mono ?_
  rintro e w5 ⟨rfl, rfl⟩
  refine hK _ _ (Fr.refl _ _) ?_
  clear hK K
  iterate 1
    refine wpG_pure fun K hK => ?_
    go_simp
    refine hK _ ?_
    clear hK K
  refine wpG_one fun K hK => ?_
  go_simp
  rw [hsh2.out]
  refine (hLd2.readA hA2.out).mono ?_
  rintro e w62 ⟨v2, rfl, hv2, ho2, hf62⟩
  refine hK _ _ (hf62) ?_
  clear hK K
  iterate 5
    refine wpG_pure fun K hK => ?_
    go_simp
    refine hK _ ?_
    clear hK K
  refine wpG_end ?_
  clear hsh2 hA82 hfb2
  have hL11 := (hL10.keep hdr2).keep hf62
  have hLc11 := hLd2.keep hf62
  have hv11 := SlF.fr0 hv1 (hdr2.trans0 hf62)
  have hWd : Hid (readI R9 0 (R9.t.length * 2 ^ R9.B) = W) := hidIt (by rw [← hW.out, hA1.out, hLc10.hB])
  rw [hWd.out] at hv2
  clear hL10 hLc10 hLd2 hdr2 hWd ho2 hf62 hv1
  obtain ⟨va2, vc2, rfl, _⟩ := hv2.open
  go_wp2_with fail
  refine (iSize_calls _ hL11.st.img).mono ?_
  rintro e w12 ⟨rfl, rfl⟩
  go_wp2_with fail
  go_loopw [18, 94] (fun _ i wr => ∃ k : Nat, k ≤ R9.t.length ∧ i = .int .i64 k ∧ Fr [] w62 wr) (fun _ i _ => R9.t.length - (intOf i).toNat)
  case atStart => exact ⟨0, Nat.zero_le _, rfl, Fr.refl _ _⟩
  obtain ⟨k, hk, rfl, hF⟩ := hrel
  replace hL11 := hL11.keep hF
  replace hLc11 := hLc11.keep hF
  by_cases hlt : k < R9.t.length
  case pos =>
    have h256 := hL11.ok.len
    have hk1 := fun W h => iKind_calls (ib := ib) (p := p9) (M := R9) (k : Int) W h
    have hk2 := fun W h => iKind_calls (ib := jb) (p := pc) (M := R9) (k : Int) W h
    have hL12 := hL11.st.img
    have hLc12 := hLc11.st.img
    clear hL11 hLc11 hv11 hv2
    generalize (tget R9.t k).1 = kk at *
    go_wp2_with fail
    refine (hk1 _ hL12).mono ?_
    rintro e w13 ⟨rfl, hf13⟩
    go_wp2_with fail
    refine (hk2 _ (hLc12.fr0 hf13)).mono ?_
    rintro e w14 ⟨rfl, hf14⟩
    go_wp2
    go_roundw
    case rel => exact ⟨k + 1, by omega, by go_num, (hF.trans0 hf13).trans0 hf14⟩
    case measure => simp [intOf]; omega
  have hke : k = R9.t.length := by omega
  subst hke
  replace hv11 := SlF.fr0 hv11 hF
  replace hv2 := SlF.fr0 hv2 hF
  clear hlt hk hF
  go_wp2_with fail
  refine (iAlive_calls _).mono ?_
  rintro e w10 ⟨rfl, hf10⟩
  have hL12 := hL11.keep hf10
  have hLc12 := hLc11.keep hf10
  have k1 := fun X hX => conv_str (slY_fr0 hv11 (hf10.trans0 hX) : SlY X _ _)
  have k2 := fun X hX => conv_str (slY_fr0 hv2 (hf10.trans0 hX) : SlY X _ _)
  have k10 := k1 _ (Fr.refl _ _)
  have k20 := k2 _ (Fr.refl _ _)
  clear hv11 hv2 hL11 hLc11 hf10 k1 k2
  go_wp2_with fail
  refine (iSize_calls _ hL12.st.img).mono ?_
  rintro e w11 ⟨rfl, rfl⟩
  go_wp2_with fail
  refine (iSize_calls _ hLc12.st.img).mono ?_
  rintro e w11 ⟨rfl, rfl⟩
  go_wp2_with fail
  refine (iFree_calls _ hL12.st.img).mono ?_
  rintro e w11 ⟨rfl, rfl⟩
  go_wp2_with fail
  refine (iFree_calls _ hLc12.st.img).mono ?_
  rintro e w11 ⟨rfl, rfl⟩
  go_wp2_with fail
  refine (iRefs_calls _ hL12.st.img hL12.ok).mono ?_
  rintro e w13 ⟨r1, rfl, hr1, hf13⟩
  have hL13 := hL12.keep hf13
  have hLc13 := hLc12.keep hf13
  go_wp2_with fail
  refine (iRefs_calls _ hLc13.st.img hLc13.ok).mono ?_
  rintro e w14 ⟨r2, rfl, hr2, hf14⟩
  have hL14 := hL13.keep hf14
  have hLc14 := hLc13.keep hf14
  have hr14 := SlF.fr0 (SlF.of_owns hr1) hf14
  clear hL12 hLc12 hL13 hLc13
  go_wp2_with fail
  refine (SameN_calls _ _ _ _ hr14 (SlF.of_owns hr2)).mono ?_
  rintro e w15 ⟨rfl, hf15⟩
  have hL15 := hL14.keep hf15
  have hLc15 := hLc14.keep hf15
  clear hL14 hLc14 hr1 hr2 hr14
  go_wp2_with fail
  refine (iSnaps_calls _ hL15.st.img hL15.ok.few).mono ?_
  rintro e w16 ⟨s1, rfl, hs1, hf16⟩
  obtain ⟨sa, sc, rfl, _⟩ := Sl.of_owns hs1
  have hL16 := hL15.keep hf16
  have hLc16 := hLc15.keep hf16
  clear hs1 hL15 hLc15
  go_wp2_with fail
  refine (iSnaps_calls _ hLc16.st.img hLc16.ok.few).mono ?_
  rintro e w17 ⟨s2, rfl, hs2, hf17⟩
  obtain ⟨sa2, sc2, rfl, _⟩ := Sl.of_owns hs2
  have hL17 := hL16.keep hf17
  clear hs2 hL16 hLc16
  go_wp2
  go_ret
  exact ⟨rfl, hf0.trans0 hL17.st.fr⟩
end Go.Proofs.Ytilhbjjjmdnjmaa
