/-
  law12.ImageDrops: the walk.
-/
import Derived.Test.YtilhbjjjmdnjmaaM37
namespace Go.Proofs.Ytilhbjjjmdnjmaa
open Go.RowKit Go.Maps
attribute [local go_sem] mapAt_alloc mapAt_setCell mapAt_drew mapAt_drewN cells_str store_str eql_str neq_str guard_str len_str
set_option maxRecDepth 100000 in
set_option maxHeartbeats 3200000 in
theorem ImageDrops_any (w : World) (a1 a2 a3 : Int) (v : Value) (l : List OpI) (hv : OpsW w w.heap.size v l) :
    Calls Try.prog 6 #[.agg #[.int .i64 a1, .int .i64 a2, .int .i64 a3], v] w fun e w' => e = .returned (.bool true) ∧ Fr [] w w' := by
  obtain ⟨a, cap, rfl, hlc, hcm⟩ := hv.open
  unfold maxLen at hcm
  have hf0 := (Fr.refl [] w).alloc (.cells #[.int .i64 a1, .int .i64 a2, .int .i64 a3] 23)
  have B0 := Blk.new w [.int .i64 a1, .int .i64 a2, .int .i64 a3] 23
  have hz := hf0.size
  replace hv := hv.fr0 hf0
  have c0 := B0.cell
  by_cases hok : okSeat a1 a2 a3
  case neg =>
    go_enter Try.func6, Try.ntmps6
    go_wp2_with fail
    refine (iNew_no a1 a2 a3 _ hok).mono ?_
    rintro e w1 ⟨rfl, hf1⟩
    go_wp2_with fail
    refine (iAlive_calls _).mono ?_
    rintro e w9 ⟨rfl, hf9⟩
    go_wp2
    go_ret
    exact ⟨rfl, (hf0.trans0 hf1).trans0 hf9⟩
  obtain ⟨B, rfl⟩ : ∃ B : Nat, a1 = B := ⟨a1.toNat, by unfold okSeat at hok; omega⟩
  obtain ⟨n, rfl⟩ : ∃ n : Nat, a2 = n := ⟨a2.toNat, by unfold okSeat at hok; omega⟩
  obtain ⟨r, rfl⟩ : ∃ r : Nat, a3 = r := ⟨a3.toNat, by unfold okSeat at hok; omega⟩
  have hB3 : B ≤ 3 := by unfold okSeat at hok; omega
  generalize hw1 : (w.alloc (.cells #[.int .i64 (B : Int), .int .i64 (n : Int), .int .i64 (r : Int)] 23)) = w1 at *
  go_enter Try.func6, Try.ntmps6
  go_wp2_with fail
  try rw [hw1]
  refine (iNew_yes B n r _ hok).mono ?_
  intro e w2 hp
  obtain ⟨ib, p, rfl, hst⟩ := new_St hp
  have hL := LawI.made hok hst
  clear hp hst hok hw1
  replace c0 := (B0.fr0 hL.st.fr).cell
  go_wp2_with fail
  refine (iFew_calls _ _ _ _ (.slice a l.length cap) l _ (hv.fr0 hL.st.fr)).mono ?_
  rintro e w3 ⟨b0, rfl, hfb0⟩
  replace hL := hL.keep hfb0
  replace c0 := (B0.fr0 hL.st.fr).cell
  clear hfb0
  cases b0
  case false =>
    go_wp2_with fail
    refine (iAlive_calls _).mono ?_
    rintro e w9 ⟨rfl, hf9⟩
    go_wp2
    go_ret
    exact ⟨rfl, (hf0.trans0 hL.st.fr).trans0 hf9⟩
  go_wp2_with fail
  go_loopw [8, 37] (fun _ i wr => ∃ (k : Nat) (q : Pl) (R : Img), k ≤ l.length ∧ i = .int .i64 k ∧ LawI w1 wr ib q R B r) (fun _ i _ => l.length - (intOf i).toNat)
  case atStart => exact ⟨0, _, _, Nat.zero_le _, rfl, hL⟩
  clear hL c0
  obtain ⟨k, q, R, hk, rfl, hL⟩ := hrel
  have c0 := (B0.fr0 hL.st.fr).cell
  by_cases hlt : k < l.length
  case pos =>
    obtain ⟨b, off, vb, rfl, hb, hbn, hbv, d0, d1, d2, d3, d4⟩ := (hv.fr0 hL.st.fr).at hlt
    generalize l.getD k zOI = o at *
    have hL2 := hL.keep ((Fr.refl [] wr).alloc (.cells #[.int .i64 o.k, .int .i64 o.x, .int .i64 o.lo, vb, strL o.nm] 33))
    have hbv2 := hbv.fr ((Fr.refl [] wr).alloc (.cells #[.int .i64 o.k, .int .i64 o.x, .int .i64 o.lo, vb, strL o.nm] 33)) (fun _ h => by cases h)
    have B9 := (Blk.new wr [.int .i64 o.k, .int .i64 o.x, .int .i64 o.lo, vb, strL o.nm] 33).cell
    have kD := hL2.does hz o vb hbv2
    obtain ⟨vb1, vc1, rfl, _⟩ := hbv.sl.open
    obtain ⟨ok, ox, olo, ob, onm⟩ := o
    unfold opiV at kD
    clear hbv hbv2 hL2
    go_wp2_with fail
    refine kD.mono ?_
    rintro e w3 ⟨p3, rfl, hL3, hs3⟩
    clear kD
    go_wp2
    go_roundw
    case rel => exact ⟨k + 1, p3, _, by omega, by go_num, hL3⟩
    case measure => simp [intOf]; omega
  have hke : k = l.length := by omega
  subst hke
  clear hlt hk hlc hv
  have hok := hL.ok
  have hfew := hok.few
  go_wp2_with fail
  refine (iSnaps_calls _ hL.st.img hfew).mono ?_
  rintro e w5 ⟨sv, rfl, hsv, hf5⟩
  have hL5 := hL.keep hf5
  have hsl := SlF.of_owns (f := strC) (l := R.s.map (·.1)) (by rw [List.length_map]; exact hsv)
  obtain ⟨sa, sc, rfl, _⟩ := Sl.of_owns hsv
  have hap : ApartF strC w5 q (.slice sa R.s.length sc) (R.s.map (·.1)) := ⟨hsl, fun _ k hk => ⟨hL.st.img.new (own_base hsv k hk), (hsv.lt k hk).2⟩⟩
  have hds := fun C (h : OkI C) k hs (hk : k < R.s.length) => drop_said (M := R) (R := C) (k := k) h hs hk
  have hgd : ∀ k, k < R.s.length → Hid ((R.s.map (·.1)).getD k [] = (R.s.getD k zQ).1) := fun k hk => hidIt (by simp only [List.getD_eq_getElem?_getD, List.getElem?_map, List.getElem?_eq_getElem hk]; rfl)
  have hnl : Hid ((R.s.map (·.1)).length = R.s.length) := hidIt (List.length_map _)
  have hst0 : Hid (R.s = R.s.drop 0) := hidIt rfl
  have hen : Hid (R.s.drop R.s.length = []) := hidIt List.drop_length
  clear hL hsv hsl hf5 hok c0
  replace c0 := (B0.fr0 hL5.st.fr).cell
  generalize R.s.map (·.1) = ss at *
  generalize hN : R.s.length = N at *
  clear hN
  go_wp2_with fail
  go_loopw [10, 48] (fun _ i wr => ∃ (k : Nat) (q : Pl) (C : Img), k ≤ N ∧ i = .int .i64 k ∧ LawI w1 wr ib q C B r ∧ Hid (C.s = R.s.drop k) ∧ ApartF strC wr q (.slice sa N sc) ss) (fun _ i _ => N - (intOf i).toNat)
  case atStart => exact ⟨0, _, _, Nat.zero_le _, rfl, hL5, hst0, hap⟩
  clear hL5 c0 hap hst0
  obtain ⟨k, q, C, hk, rfl, hL, hcs, hap⟩ := hrel
  have c0 := (B0.fr0 hL.st.fr).cell
  by_cases hlt : k < N
  case pos =>
    obtain ⟨gb, go, rfl, hgb, dd⟩ := SlT.at hap.sl (i := k) (by rw [hnl.out]; exact hlt)
    rw [(hgd k hlt).out] at dd
    obtain ⟨C', hdr, _, _, _, _, hcs'⟩ := hds C hL.ok k hcs.out hlt
    have kD := iDrop_calls (R.s.getD k zQ).1 _ hL.st.img hL.ok
    have kK := drop_K hL.ok (R.s.getD k zQ).1 (fun _ => False) (fun h => h)
    replace hcs' := hidIt hcs'
    clear hgd hds hen
    generalize (R.s.getD k zQ).1 = nm at *
    go_wp2_with fail
    refine kD.mono ?_
    intro e w6 hp
    obtain ⟨q6, rfl, hL6, hs6⟩ := hL.res hp kK
    have hap6 := hap.step hs6
    have hL6 : LawI w1 w6 ib q6 C' B r := by rw [hdr] at hL6; exact hL6
    rw [hdr]
    clear hp kD kK hdr hs6 hL hap
    go_wp2
    go_roundw
    case rel => exact ⟨k + 1, q6, C', by omega, by go_num, hL6, hcs', hap6⟩
    case measure => simp [intOf]; omega
  have hke : k = N := by omega
  subst hke
  clear hlt hk hds hgd
  have hCs : C.s = [] := by rw [hcs.out, hen.out]
  have hdd := disc_said hL.ok hCs
  have kK := fun l => discard_K hL.ok 0 l (fun _ => False)
  obtain ⟨A, hA, hA8, hsh⟩ := hL.allD
  have hdr := (Fr.refl [] wr).drew
  have hLd := hL.keep hdr
  have hfb := hL.st.fr.drew
  have hA' : C.t.length * 2 ^ C.B = A := by rw [hA.out, hL.hB]
  rw [hA'] at hdd
  have hBd := B0.fr0 hfb
  have hr0 : q.r w.heap.size = none := by
    cases hr : q.r w.heap.size with
    | none => rfl
    | some x =>
      have := hL.st.new w.heap.size (by rw [hr]; rfl)
      have := B0.lt
      omega
  clear hL hen hcs hCs hA' hap c0
  go_wp2_with fail
  refine wp_region_G (fun X => Blk X w.heap.size [.int .i64 (B : Int), .int .i64 (n : Int), .int .i64 (r : Int)] 23) [(true, 0), (true, 1), (true, 3), (true, 4), (false, 2), (true, 5), (false, 6), (true, 7)] (by as_aux_lemma => kernel_rfl) (by as_aux_lemma => kernel_rfl) (hBd) ?_
  simp only [inOrder, List.map_cons, List.map_nil, List.getD_cons_zero, List.getD_cons_succ]
  iterate 3
    refine wpG_pure fun K hK => ?_
    go_simp
    refine hK _ ?_
    clear hK K
  refine wpG_val (.int .i64 (B : Int)) (by first | rfl | go_simp) (fun X hX => by have cc := Blk.cell hX; go_simp) ?_
  simp only [Act.put, List.setIfInBounds_toArray, List.set_cons_zero, List.set_cons_succ]
  refine wpG_one fun K hK => ?_
  go_simp
  refine (iSize_calls _ hLd.st.img).mono ?_
  rintro e w7 ⟨rfl, rfl⟩
  refine hK _ _ (hBd) ?_
  clear hK K
  iterate 1
    refine wpG_pure fun K hK => ?_
    go_simp
    refine hK _ ?_
    clear hK K
  refine wpG_one fun K hK => ?_
  go_simp
  rw [hsh.out]
  refine (iDiscard_calls 0 (A : Int) _ hLd.st.img hLd.ok).mono ?_
  intro e w8 hp
  obtain ⟨q8, rfl, hL8, hs8⟩ := hLd.res hp (kK _)
  refine hK _ _ ((box_step hBd hr0 hs8).1) ?_
  clear hK K
  rw [hdd.1]
  iterate 1
    refine wpG_pure fun K hK => ?_
    go_simp
    refine hK _ ?_
    clear hK K
  refine wpG_end ?_
  have hfr : freeN (discardE C 0 A).2.n = r := hdd.2.1.trans hLd.hr
  have hns : (discardE C 0 A).2.s.length = 0 := by rw [hdd.2.2.1]; rfl
  clear hdd kK hp hs8 hLd hBd hsh hdr hfb
  generalize (discardE C 0 A).2 = D at *
  have hB8 := (B0.fr0 hL8.st.fr)
  have hf8d := (Fr.refl [] w8).drew
  go_wp2_with fail
  refine wp_region_G (Fr [] w8.drew) [(false, 0), (true, 1), (true, 2), (true, 3), (true, 4), (true, 5), (true, 6), (true, 8), (true, 9), (false, 7), (true, 10), (true, 11), (true, 12), (true, 13), (false, 14), (true, 15), (true, 16), (true, 17), (true, 18)] (by as_aux_lemma => kernel_rfl) (by as_aux_lemma => kernel_rfl) (Fr.refl _ _) ?_
  simp only [inOrder, List.map_cons, List.map_nil, List.getD_cons_zero, List.getD_cons_succ]
  refine wpG_one fun K hK => ?_
  go_simp
  refine (iAlive_calls _).mono ?_
  rintro e w20 ⟨rfl, hf20⟩
  refine hK _ _ (hf20) ?_
  clear hK K
  have hL20 := hL8.keep (hf8d.trans0 hf20)
  iterate 7
    refine wpG_pure fun K hK => ?_
    go_simp
    refine hK _ ?_
    clear hK K
  refine wpG_val (.int .i64 (r : Int)) (by first | rfl | go_simp) (fun X hX => by have cc := (hB8.fr0 (hf8d.trans0 hX)).cell; go_simp) ?_
  simp only [Act.put, List.setIfInBounds_toArray, List.set_cons_zero, List.set_cons_succ]
  refine wpG_one fun K hK => ?_
  go_simp
  refine (iFree_calls _ hL20.st.img).mono ?_
  rintro e w21 ⟨rfl, rfl⟩
  rw [hfr]
  refine hK _ _ (hf20) ?_
  clear hK K
  iterate 4
    refine wpG_pure fun K hK => ?_
    go_simp
    refine hK _ ?_
    clear hK K
  refine wpG_one fun K hK => ?_
  go_simp
  refine (iSnaps_calls _ hL20.st.img hL20.ok.few).mono ?_
  rintro e w22 ⟨v22, rfl, hv22, hf22⟩
  rw [hns] at hv22
  obtain ⟨va22, vc22, rfl, _⟩ := Sl.of_owns hv22
  refine hK _ _ (hf20.trans0 hf22) ?_
  clear hK K
  iterate 4
    refine wpG_pure fun K hK => ?_
    go_simp
    refine hK _ ?_
    clear hK K
  refine wpG_end ?_
  have hfin := (hf0.trans0 hL20.st.fr).trans0 hf22
  clear hL20 hL8 hB8 hv22
  go_wp2
  go_ret
  exact ⟨rfl, hfin⟩
end Go.Proofs.Ytilhbjjjmdnjmaa
